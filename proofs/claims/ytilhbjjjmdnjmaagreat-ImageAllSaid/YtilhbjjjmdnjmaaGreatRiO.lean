/-
  law12.stands: an image has what the document's image has. Package image: Bits.
-/
import Derived.Test.YtilhbjjjmdnjmaaGreatRiM
import Derived.Test.YtilhbjjjmdnjmaaGreatM37
namespace Go.Proofs.YtilhbjjjmdnjmaaGreat
open Go.RowKit Go.Maps
attribute [local go_sem] mapAt_alloc mapAt_setCell mapAt_drew mapAt_drewN cells_str store_str eql_str neq_str guard_str len_str

section
variable {ib : Nat} {p : Pl} {M : Img}
set_option maxRecDepth 100000 in
theorem iBits_calls (w : World) (h : ImgW w ib p M) : Calls Tryz.prog 9 #[.pointer (some ⟨ib, 0, none⟩)] w fun e w' => e = .returned (.int .i64 M.B) ∧ w = w' := by
  have b0 := h.blk.cell
  go_enter Tryz.func9, Tryz.ntmps9
  go_wp2
  go_ret
  exact ⟨rfl, rfl⟩
end
section
variable {S : Nat → Prop} {vc vs vd : Value} {R : RIm} {M : Img} {ib : Nat} {p : Pl} {f : Nat → Nat}
set_option maxRecDepth 100000 in
set_option maxHeartbeats 3200000 in
theorem rStands_calls (w : World) (hI : ImgW w ib p M) (hok : OkI M) (h : RiW S w vc vs vd R) (hs : Sim M R f) : Calls Tryz.prog 12 #[.pointer (some ⟨ib, 0, none⟩), riV R vc vs vd] w fun e w' => e = .returned (.bool true) ∧ Fr [] w w' := by
  obtain ⟨ac, cc, as_, cs, ad, cd, rfl, rfl, rfl, hcc, hcs, hcd⟩ := h.open
  have hlen := hs.len
  have hsl := hs.slen
  have hn2 : M.t.length ≤ 256 := hok.len
  have hs8 : M.s.length ≤ 8 := hok.few
  have hB3 : M.B ≤ 3 := hok.B
  obtain ⟨A, hA⟩ : ∃ A, Hid (A = M.t.length * 2 ^ M.B) := ⟨_, hidIt rfl⟩
  have hA8 : A ≤ 2048 := by
    have := all_le hok.toOkJ
    rw [← hA.out] at this
    exact this
  have hsh : Hid (wrap64 ((M.t.length : Int) * 2 ^ M.B) = (A : Int)) := hidIt (by
    have e : ((M.t.length : Int) * 2 ^ M.B) = ((M.t.length * 2 ^ M.B : Nat) : Int) := by push_cast; rfl
    rw [e, ← hA.out, IntWalk.wrap64_in _ (by omega)])
  have hin : insideI M 0 (A : Int) = 0 := inside_nat (a := 0) (n := A) (by have := hA.out; omega)
  have hin2 : rinside R 0 (A : Int) = 0 := by rw [inside_sim hs]; exact hin
  have hrd : rread R 0 A = readI M 0 A := read_sim hs hok A
  have hfr := hs.free hok
  have B0 := Blk.new w [.int .i64 (R.mn : Int), .int .i64 (R.rm : Int), .slice ac R.c.length cc, .slice as_ R.s.length cs, .slice ad R.d.length cd] 36
  have hf0 := (Fr.refl [] w).alloc (.cells #[.int .i64 (R.mn : Int), .int .i64 (R.rm : Int), .slice ac R.c.length cc, .slice as_ R.s.length cs, .slice ad R.d.length cd] 36)
  have kS := fun W (hW : Fr [] w W) => iSize_calls W (hI.fr0 hW)
  have kB := fun W (hW : Fr [] w W) => iBits_calls W (hI.fr0 hW)
  have kF := fun W (hW : Fr [] w W) => iFree_calls W (hI.fr0 hW)
  have kR := fun W (hW : Fr [] w W) => iRead_calls 0 (A : Int) W (hI.fr0 hW) hok
  have kRr := fun W (hW : Fr [] w W) => rRead_calls 0 (A : Int) W (h.fr0 hW)
  have kFr := fun W (hW : Fr [] w W) => rFree_calls W (h.fr0 hW)
  have kSn := fun W (hW : Fr [] w W) => iSnaps_calls W (hI.fr0 hW) hs8
  have kK := fun (k : Nat) W (hW : Fr [] w W) => iKind_calls (k : Int) W (hI.fr0 hW)
  have hkd := fun k => hs.kinds k
  have hcel := fun W (hW : Fr [] w W) k (hk : k < R.c.length) => celAt (h.fr0 hW).c.sl hk
  have hsnp := fun W (hW : Fr [] w W) k (hk : k < R.s.length) => (h.fr0 hW).snapAt hk
  have hnm : ∀ k, k < M.s.length → (R.s.getD k zRQ).1 = (M.s.map (·.1)).getD k [] := fun k hk => by
    rw [hs.s]
    simp only [List.getD_eq_getElem?_getD, List.getElem?_map, List.getElem?_eq_getElem hk]
    rfl
  have hnl : (M.s.map (·.1)).length = M.s.length := List.length_map _
  unfold snapsPost at kSn
  unfold readPost at kR
  unfold rreadPost at kRr
  simp only [hin, hin2, if_true, Int.toNat_natCast, hfr] at kR kRr kFr
  have e0 : Int.toNat 0 = 0 := rfl
  rw [e0] at kRr kR
  rw [hrd] at kRr
  rw [hlen] at hcel
  rw [hsl] at hsnp
  unfold riV at *
  simp only [hlen, hsl] at B0 hf0 kRr kFr ⊢
  obtain ⟨T, hT⟩ : ∃ T, Hid (readI M 0 A = T) := ⟨_, hidIt rfl⟩
  rw [hT.out] at kR kRr
  clear hin hin2 hrd hfr hI h hs hA hlen hsl hT e0
  generalize M.s.map (·.1) = ns at *
  generalize M.s.length = m at *
  generalize M.t.length = n at *
  generalize hw1 : w.alloc (.cells #[.int .i64 (R.mn : Int), .int .i64 (R.rm : Int), .slice ac n cc, .slice as_ m cs, .slice ad R.d.length cd] 36) = w1 at *
  go_enter Tryz.func12, Tryz.ntmps12
  go_wp2_with fail
  try rw [hw1]
  refine (kS _ hf0).mono ?_
  rintro e w2 ⟨rfl, rfl⟩
  go_wp2_with fail
  refine (kB _ hf0).mono ?_
  rintro e w2 ⟨rfl, rfl⟩
  go_wp2_with fail
  rw [hsh.out]
  refine (kR _ hf0).mono ?_
  rintro e w2 ⟨v, rfl, hv, _, _, hf2⟩
  have hF2 := hf0.trans0 hf2
  have B2 := B0.fr0 hf2
  have c2 := B2.cell
  have l2 := B2.lt
  obtain ⟨av, cv, rfl, _⟩ := hv.open
  go_wp2_with fail
  refine (kRr _ hF2).mono ?_
  rintro e w3 ⟨rfl, hf3⟩
  have hF3 := hF2.trans0 hf3
  have hv3 := SlF.fr0 hv hf3
  go_wp2_with fail
  refine (kSn _ hF3).mono ?_
  rintro e w4 ⟨vn, rfl, hn4, hf4⟩
  have hF4 := hF3.trans0 hf4
  have hv4 := SlF.fr0 hv3 hf4
  have B4 := (B2.fr0 hf3).fr0 hf4
  have hn5 : SlT w4 vn ns := SlF.of_owns (by rw [hnl]; exact hn4)
  obtain ⟨an, cn, rfl, _⟩ := Sl.of_owns hn4
  clear hv hv3 hn4
  have hdr := (Fr.refl [] w4).drew
  have hFd := hF4.trans0 hdr
  have kcv := fun X (hX : Fr [] w4.drew X) => conv_str (SlF.fr0 (hv4.fr0 hdr) hX)
  go_wp2_with fail
  refine wp_region_G (fun X => Fr [] w4.drew X) [(true, 0), (true, 2), (true, 3), (true, 4), (false, 1), (true, 5), (true, 6), (true, 7), (true, 8), (true, 9), (true, 10), (true, 11), (true, 12), (true, 13), (true, 14), (true, 15), (true, 16), (true, 17), (true, 18), (true, 20), (false, 19), (false, 21), (true, 22), (true, 23), (true, 24), (true, 25), (true, 26), (true, 27), (true, 28), (true, 29), (true, 30), (true, 31)] (by as_aux_lemma => kernel_rfl) (by as_aux_lemma => kernel_rfl) (Fr.refl _ _) ?_
  simp only [inOrder, List.map_cons, List.map_nil, List.getD_cons_zero, List.getD_cons_succ]
  iterate 2
    refine wpG_pure fun K hK => ?_
    go_simp
    refine hK _ ?_
    clear hK K
  refine wpG_val (.slice ac n cc) (by first | rfl | go_simp) (fun X hX => by have cc := (B4.fr0 (hdr.trans0 hX)).cell; go_simp) ?_
  simp only [Act.put, List.setIfInBounds_toArray, List.set_cons_zero, List.set_cons_succ]
  iterate 1
    refine wpG_pure fun K hK => ?_
    go_simp
    refine hK _ ?_
    clear hK K
  refine wpG_one fun K hK => ?_
  go_simp
  refine (kS _ hFd).mono ?_
  rintro e w5 ⟨rfl, rfl⟩
  refine hK _ _ (Fr.refl _ _) ?_
  clear hK K
  iterate 8
    refine wpG_pure fun K hK => ?_
    go_simp
    refine hK _ ?_
    clear hK K
  refine wpG_val (strL T) (by first | rfl | go_simp) (fun X hX => by have cc := kcv X hX; go_simp) ?_
  simp only [Act.put, List.setIfInBounds_toArray, List.set_cons_zero, List.set_cons_succ]
  iterate 5
    refine wpG_pure fun K hK => ?_
    go_simp
    refine hK _ ?_
    clear hK K
  refine wpG_val (.agg #[.int .i64 (R.mn : Int), .int .i64 (R.rm : Int), .slice ac n cc, .slice as_ m cs, .slice ad R.d.length cd]) (by first | rfl | go_simp) (fun X hX => by have cc := (B4.fr0 (hdr.trans0 hX)).cell; go_simp) ?_
  simp only [Act.put, List.setIfInBounds_toArray, List.set_cons_zero, List.set_cons_succ]
  refine wpG_one fun K hK => ?_
  go_simp
  refine (kF _ hFd).mono ?_
  rintro e w5 ⟨rfl, rfl⟩
  refine hK _ _ (Fr.refl _ _) ?_
  clear hK K
  refine wpG_one fun K hK => ?_
  go_simp
  refine (kFr _ hFd).mono ?_
  rintro e w5 ⟨rfl, hf5⟩
  refine hK _ _ (hf5) ?_
  clear hK K
  iterate 6
    refine wpG_pure fun K hK => ?_
    go_simp
    refine hK _ ?_
    clear hK K
  refine wpG_val (.slice as_ m cs) (by first | rfl | go_simp) (fun X hX => by have cc := (B4.fr0 (hdr.trans0 hX)).cell; go_simp) ?_
  simp only [Act.put, List.setIfInBounds_toArray, List.set_cons_zero, List.set_cons_succ]
  iterate 3
    refine wpG_pure fun K hK => ?_
    go_simp
    refine hK _ ?_
    clear hK K
  refine wpG_end ?_
  have hF5 := hFd.trans0 hf5
  have hn6 := (hn5.fr0 hdr).fr0 hf5
  have B5 := B4.fr0 (hdr.trans0 hf5)
  have c5 := B5.cell
  clear kS kB kF kR kRr kFr kSn kcv hv4 B0 B2 c2 l2
  go_wp2_with fail
  go_loopw [11, 67] (fun _ i wr => ∃ k : Nat, k ≤ n ∧ i = .int .i64 k ∧ Fr [] w5 wr) (fun _ i _ => n - (intOf i).toNat)
  case atStart => exact ⟨0, Nat.zero_le _, rfl, Fr.refl _ _⟩
  obtain ⟨k, hk, rfl, hF⟩ := hrel
  by_cases hlt : k < n
  case pos =>
    have hdr2 := (Fr.refl [] wr).drew
    have hFk := (hF5.trans0 hF).trans0 hdr2
    have B6 := B5.fr0 (hF.trans0 hdr2)
    have kc := fun X (hX : Fr [] wr.drew X) => hcel X (hFk.trans0 hX) k hlt
    obtain ⟨bb, off, hac, _⟩ := kc _ (Fr.refl _ _)
    subst hac
    have kc0 : ∀ X, Fr [] wr.drew X → bb < X.heap.size ∧ X.cell? ⟨bb, off + k * 2, none⟩ = some (.int .i64 (tget M.t k).1) := fun X hX => by
      obtain ⟨b', o', he, h1, h2, _⟩ := kc X hX
      cases he
      rw [hkd k] at h2
      exact ⟨h1, h2⟩
    have kq := kK k wr.drew hFk
    clear hcel kK hkd kc c5
    generalize (tget M.t k).1 = s at *
    go_wp2_with fail
    refine wp_region_G (fun X => Fr [] wr.drew X) [(true, 0), (true, 1), (true, 3), (true, 4), (true, 5), (true, 6), (true, 7), (true, 8), (false, 2), (true, 9)] (by as_aux_lemma => kernel_rfl) (by as_aux_lemma => kernel_rfl) (Fr.refl _ _) ?_
    simp only [inOrder, List.map_cons, List.map_nil, List.getD_cons_zero, List.getD_cons_succ]
    iterate 3
      refine wpG_pure fun K hK => ?_
      go_simp
      refine hK _ ?_
      clear hK K
    refine wpG_val (.slice (some ⟨bb, off, none⟩) n cc) (by first | rfl | go_simp) (fun X hX => by have cc := (B6.fr0 hX).cell; go_simp) ?_
    simp only [Act.put, List.setIfInBounds_toArray, List.set_cons_zero, List.set_cons_succ]
    iterate 1
      refine wpG_pure fun K hK => ?_
      go_simp
      refine hK _ ?_
      clear hK K
    iterate 2
      refine wpG_pure fun K hK => ?_
      go_simp
      refine hK _ ?_
      clear hK K
    refine wpG_val (.int .i64 s) (by first | rfl | go_simp) (fun X hX => by have cc := (kc0 X hX).2; go_simp) ?_
    simp only [Act.put, List.setIfInBounds_toArray, List.set_cons_zero, List.set_cons_succ]
    refine wpG_one fun K hK => ?_
    go_simp
    refine (kq).mono ?_
    rintro e w7 ⟨rfl, hf7⟩
    refine hK _ _ (hf7) ?_
    clear hK K
    iterate 1
      refine wpG_pure fun K hK => ?_
      go_simp
      refine hK _ ?_
      clear hK K
    refine wpG_end ?_
    have hF7 := (hF.trans0 hdr2).trans0 hf7
    clear kq kc0 B6
    go_wp2
    go_roundw
    case rel => exact ⟨k + 1, by omega, by go_num, hF7⟩
    case measure => simp [intOf]; omega
  have hke : k = n := by omega
  subst hke
  clear hlt hk hcel kK hkd
  replace hF5 := hF5.trans0 hF
  have hn7 := SlF.fr0 hn6 hF
  have B7 := B5.fr0 hF
  clear c5 B5 hn6
  generalize wr = wq at *
  go_wp2_with fail
  go_loopw [12, 83] (fun _ i wx => ∃ k : Nat, k ≤ m ∧ i = .int .i64 k ∧ Fr [] wq wx) (fun _ i _ => m - (intOf i).toNat)
  case atStart => exact ⟨0, Nat.zero_le _, rfl, Fr.refl _ _⟩
  obtain ⟨j, hj, rfl, hG⟩ := hrel
  by_cases hlt : j < m
  case pos =>
    have hdr2 := (Fr.refl [] wr).drew
    have hFk := (hF5.trans0 hG).trans0 hdr2
    have B8 := B7.fr0 (hG.trans0 hdr2)
    have hn8 := SlF.fr0 hn7 (hG.trans0 hdr2)
    have kc := fun X (hX : Fr [] wr.drew X) => hsnp X (hFk.trans0 hX) j hlt
    obtain ⟨bb, off, _, _, hac, _⟩ := kc _ (Fr.refl _ _)
    subst hac
    obtain ⟨bn, on, han, _⟩ := SlT.at hn8 (i := j) (by rw [hnl]; exact hlt)
    subst han
    have hnj := hnm j hlt
    have kc0 : ∀ X, Fr [] wr.drew X → bb < X.heap.size ∧ X.cell? ⟨bb, off + j * 2, none⟩ = some (strL (ns.getD j [])) := fun X hX => by
      obtain ⟨b', o', _, _, he, h1, h2, _⟩ := kc X hX
      cases he
      rw [hnj] at h2
      exact ⟨h1, h2⟩
    have kn0 : ∀ X, Fr [] wr.drew X → bn < X.heap.size ∧ X.cell? ⟨bn, on + j, none⟩ = some (strL (ns.getD j [])) := fun X hX => by
      obtain ⟨b', o', he, h1, h2⟩ := SlT.at (SlF.fr0 hn8 hX) (i := j) (by rw [hnl]; exact hlt)
      cases he
      exact ⟨h1, h2⟩
    clear hsnp hnm hnj kc hn8
    generalize ns.getD j [] = s at *
    go_wp2_with fail
    refine wp_region_G (fun X => Fr [] wr.drew X) [(true, 0), (true, 1), (true, 2), (true, 3), (true, 4), (true, 5), (true, 6), (true, 7), (true, 8), (true, 9), (true, 10)] (by as_aux_lemma => kernel_rfl) (by as_aux_lemma => kernel_rfl) (Fr.refl _ _) ?_
    simp only [inOrder, List.map_cons, List.map_nil, List.getD_cons_zero, List.getD_cons_succ]
    iterate 3
      refine wpG_pure fun K hK => ?_
      go_simp
      refine hK _ ?_
      clear hK K
    refine wpG_val (strL s) (by first | rfl | go_simp) (fun X hX => by have cc := (kn0 X hX).2; go_simp) ?_
    simp only [Act.put, List.setIfInBounds_toArray, List.set_cons_zero, List.set_cons_succ]
    iterate 1
      refine wpG_pure fun K hK => ?_
      go_simp
      refine hK _ ?_
      clear hK K
    refine wpG_val (.slice (some ⟨bb, off, none⟩) m cs) (by first | rfl | go_simp) (fun X hX => by have cc := (B8.fr0 hX).cell; go_simp) ?_
    simp only [Act.put, List.setIfInBounds_toArray, List.set_cons_zero, List.set_cons_succ]
    iterate 3
      refine wpG_pure fun K hK => ?_
      go_simp
      refine hK _ ?_
      clear hK K
    refine wpG_val (strL s) (by first | rfl | go_simp) (fun X hX => by have cc := (kc0 X hX).2; go_simp) ?_
    simp only [Act.put, List.setIfInBounds_toArray, List.set_cons_zero, List.set_cons_succ]
    iterate 1
      refine wpG_pure fun K hK => ?_
      go_simp
      refine hK _ ?_
      clear hK K
    refine wpG_end ?_
    have hG2 := hG.trans0 hdr2
    clear kn0 kc0 B8
    go_wp2
    go_roundw
    case rel => exact ⟨j + 1, by omega, by go_num, hG2⟩
    case measure => simp [intOf]; omega
  have hje : j = m := by omega
  subst hje
  clear hsnp hnm
  go_wp2
  go_ret
  exact ⟨rfl, hF5.trans0 hG⟩
end
end Go.Proofs.YtilhbjjjmdnjmaaGreat
