/-
  The document's image: own, cluster.
-/
import Derived.Test.YtilhbjjjmdnjmaaGreatM56
namespace Go.Proofs.YtilhbjjjmdnjmaaGreat
open Go.RowKit Go.Maps
attribute [local go_sem] cells_str store_str len_str

section
variable {S : Nat → Prop} {vc vs vd : Value} {R : RIm}
set_option maxRecDepth 100000 in
set_option maxHeartbeats 3200000 in
theorem rOwn_calls (c : Nat) (w : World) (h : RiW S w vc vs vd R) (hc : c < R.c.length) : Calls Tryz.prog 70 #[riV R vc vs vd, .int .i64 (c : Int)] w fun e w' => e = .returned (.bool (rown R c)) ∧ Fr [] w w' := by
  have kR := fun W h => rRefs_calls (S := S) (vc := vc) (vs := vs) (vd := vd) (R := R) (rid R c) W h
  obtain ⟨ac, cc, as_, cs, ad, cd, rfl, rfl, rfl, hcc, hcs, hcd⟩ := h.open
  have hcl := h.ok.cl
  have hO : Hid (rown R c = (decide (rk R c = 1) && decide (rrefs R (rid R c) = 1))) := hidIt rfl
  have B0 := Blk.new w [.int .i64 (R.mn : Int), .int .i64 (R.rm : Int), .slice ac R.c.length cc, .slice as_ R.s.length cs, .slice ad R.d.length cd] 36
  have hfa := (Fr.refl [] w).alloc (.cells #[.int .i64 (R.mn : Int), .int .i64 (R.rm : Int), .slice ac R.c.length cc, .slice as_ R.s.length cs, .slice ad R.d.length cd] 36)
  have h1 := h.fr0 hfa
  generalize hw1 : w.alloc (.cells #[.int .i64 (R.mn : Int), .int .i64 (R.rm : Int), .slice ac R.c.length cc, .slice as_ R.s.length cs, .slice ad R.d.length cd] 36) = w1 at *
  have hcell : ∀ X, Fr [] w1 X → ∃ b off, ac = some ⟨b, off, none⟩ ∧ b < X.heap.size ∧ X.cell? ⟨b, off + c * 2, none⟩ = some (.int .i64 (rk R c)) ∧ X.cell? ⟨b, off + c * 2 + 1, none⟩ = some (.int .i64 (rid R c)) := fun X hX => celAt (h1.fr0 hX).c.sl hc
  obtain ⟨b, off, rfl, hb, d0, d1⟩ := hcell w1 (Fr.refl _ _)
  have d0' : ∀ X, Fr [] w1 X → X.cell? ⟨b, off + c * 2, none⟩ = some (.int .i64 (rk R c)) := fun X hX => (World.cell?_of_block (hX.block b hb (by simp))).trans d0
  have d1' : ∀ X, Fr [] w1 X → X.cell? ⟨b, off + c * 2 + 1, none⟩ = some (.int .i64 (rid R c)) := fun X hX => (World.cell?_of_block (hX.block b hb (by simp))).trans d1
  have hd := (Fr.refl [] w1).drew
  have h2 := h1.fr0 hd
  have hfin := hfa.trans0 hd
  clear h h1 hcell d0 d1
  generalize rown R c = res at *
  generalize rk R c = kk at *
  generalize hid : rid R c = ii at *
  unfold riV at *
  go_enter Tryz.func70, Tryz.ntmps70
  go_wp2_with fail
  try rw [hw1]
  clear hw1
  by_cases h1 : kk = 1
  · subst h1
    have kk := kR _ h2
    clear kR
    generalize rrefs R ii = q at *
    refine wp_region_G (Fr [] w1.drew) [(true, 0), (true, 1), (true, 2), (true, 3), (true, 4), (true, 5), (true, 6), (true, 7), (true, 8), (true, 9), (true, 10), (true, 11), (true, 12), (true, 13), (true, 14), (false, 15), (true, 16), (true, 17), (true, 18)] (by as_aux_lemma => kernel_rfl) (by as_aux_lemma => kernel_rfl) (Fr.refl _ _) ?_
    simp only [inOrder, List.map_cons, List.map_nil, List.getD_cons_zero, List.getD_cons_succ]
    iterate 1
      refine wpG_pure fun K hK => ?_
      go_simp
      refine hK _ ?_
      clear hK K
    refine wpG_val (.slice (some ⟨b, off, none⟩) R.c.length cc) (by first | rfl | go_simp) (fun X hX => by have cc0 := (B0.fr0 (hd.trans0 hX)).cell; go_simp) ?_
    simp only [Act.put, List.setIfInBounds_toArray, List.set_cons_zero, List.set_cons_succ]
    iterate 3
      refine wpG_pure fun K hK => ?_
      go_simp
      refine hK _ ?_
      clear hK K
    refine wpG_val (.int .i64 1) (by first | rfl | go_simp) (fun X hX => by have cc0 := d0' X (hd.trans0 hX); go_simp) ?_
    simp only [Act.put, List.setIfInBounds_toArray, List.set_cons_zero, List.set_cons_succ]
    iterate 2
      refine wpG_pure fun K hK => ?_
      go_simp
      refine hK _ ?_
      clear hK K
    refine wpG_val (.agg #[.int .i64 (R.mn : Int), .int .i64 (R.rm : Int), .slice (some ⟨b, off, none⟩) R.c.length cc, .slice as_ R.s.length cs, .slice ad R.d.length cd]) (by first | rfl | go_simp) (fun X hX => by have cc0 := (B0.fr0 (hd.trans0 hX)).cell; go_simp) ?_
    simp only [Act.put, List.setIfInBounds_toArray, List.set_cons_zero, List.set_cons_succ]
    iterate 1
      refine wpG_pure fun K hK => ?_
      go_simp
      refine hK _ ?_
      clear hK K
    refine wpG_val (.slice (some ⟨b, off, none⟩) R.c.length cc) (by first | rfl | go_simp) (fun X hX => by have cc0 := (B0.fr0 (hd.trans0 hX)).cell; go_simp) ?_
    simp only [Act.put, List.setIfInBounds_toArray, List.set_cons_zero, List.set_cons_succ]
    iterate 3
      refine wpG_pure fun K hK => ?_
      go_simp
      refine hK _ ?_
      clear hK K
    refine wpG_val (.int .i64 ii) (by first | rfl | go_simp) (fun X hX => by have cc0 := d1' X (hd.trans0 hX); go_simp) ?_
    simp only [Act.put, List.setIfInBounds_toArray, List.set_cons_zero, List.set_cons_succ]
    refine wpG_one fun K hK => ?_
    go_simp
    refine (kk).mono ?_
    rintro e w2 ⟨rfl, hf2⟩
    refine hK _ _ (hf2) ?_
    clear hK K
    by_cases hq : q = 1
    · subst hq
      iterate 3
        refine wpG_pure fun K hK => ?_
        go_simp
        refine hK _ ?_
        clear hK K
      refine wpG_end ?_
      have e1 : Hid (true = res) := hidIt (by rw [hO.out]; simp)
      clear hO d0' d1' h2 kk B0
      go_wp2
      go_ret
      exact ⟨ret_bool e1.out, hfin.trans0 hf2⟩
    · have hq' : ((q : Int) == 1) = false := by simp; omega
      iterate 3
        refine wpG_pure fun K hK => ?_
        go_simp
        refine hK _ ?_
        clear hK K
      refine wpG_end ?_
      have e1 : Hid (false = res) := hidIt (by rw [hO.out]; simp [hq])
      clear hO d0' d1' h2 kk B0
      go_wp2
      go_ret
      exact ⟨ret_bool e1.out, hfin.trans0 hf2⟩
  · have h1' : (kk == 1) = false := by simpa using h1
    have e1 : Hid (false = res) := hidIt (by rw [hO.out]; simp [h1])
    clear hO kR h2
    refine wp_region_G (Fr [] w1.drew) [(true, 0), (true, 1), (true, 2), (true, 3), (true, 4), (true, 5), (true, 6), (true, 7), (true, 8), (true, 9), (true, 10), (true, 11), (true, 12), (true, 13), (true, 14), (false, 15), (true, 16), (true, 17), (true, 18)] (by as_aux_lemma => kernel_rfl) (by as_aux_lemma => kernel_rfl) (Fr.refl _ _) ?_
    simp only [inOrder, List.map_cons, List.map_nil, List.getD_cons_zero, List.getD_cons_succ]
    iterate 1
      refine wpG_pure fun K hK => ?_
      go_simp
      refine hK _ ?_
      clear hK K
    refine wpG_val (.slice (some ⟨b, off, none⟩) R.c.length cc) (by first | rfl | go_simp) (fun X hX => by have cc0 := (B0.fr0 (hd.trans0 hX)).cell; go_simp) ?_
    simp only [Act.put, List.setIfInBounds_toArray, List.set_cons_zero, List.set_cons_succ]
    iterate 3
      refine wpG_pure fun K hK => ?_
      go_simp
      refine hK _ ?_
      clear hK K
    refine wpG_val (.int .i64 kk) (by first | rfl | go_simp) (fun X hX => by have cc0 := d0' X (hd.trans0 hX); go_simp) ?_
    simp only [Act.put, List.setIfInBounds_toArray, List.set_cons_zero, List.set_cons_succ]
    iterate 9
      refine wpG_pure fun K hK => ?_
      go_simp
      refine hK _ ?_
      clear hK K
    iterate 1
      refine wpG_one fun K hK => ?_
      go_simp
      clear hK K
    iterate 3
      refine wpG_pure fun K hK => ?_
      go_simp
      refine hK _ ?_
      clear hK K
    refine wpG_end ?_
    clear d0' d1' B0
    go_wp2
    go_ret
    exact ⟨ret_bool e1.out, hfin⟩
set_option maxRecDepth 100000 in
set_option maxHeartbeats 3200000 in
theorem rClu_calls (c : Nat) (u : Value) (bel : List By) (w : World) (h : RiW S w vc vs vd R) (hc : c < R.c.length) (hu : SlT w u bel) (_ : ∀ s ∈ bel, s.length ≤ maxLen) : Calls Tryz.prog 68 #[riV R vc vs vd, .int .i64 (c : Int), u] w fun e w' => e = .returned (strL (rclu R c bel)) ∧ Fr [] w w' := by
  obtain ⟨ac, cc, as_, cs, ad, cd, rfl, rfl, rfl, hcc, hcs, hcd⟩ := h.open
  obtain ⟨ua, uc, rfl, huc, _⟩ := hu.open
  have hcl := h.ok.cl
  have hm8 := h.ok.m8
  have hmp := h.ok.mp
  have hO : Hid (rclu R c bel = if rk R c = 1 then R.d.getD (rid R c).toNat [] else if rk R c = 0 ∧ (bel.getD c []).length = 16 * R.mn then bel.getD c [] else zBy (16 * R.mn)) := hidIt rfl
  have hids : rk R c = 1 → 0 ≤ rid R c ∧ rid R c < R.d.length := fun h1 => h.ok.ids (R.c.getD c zRC) (by rw [List.getD_eq_getElem?_getD, List.getElem?_eq_getElem hc]; exact List.getElem_mem _) h1
  have B0 := Blk.new w [.int .i64 (R.mn : Int), .int .i64 (R.rm : Int), .slice ac R.c.length cc, .slice as_ R.s.length cs, .slice ad R.d.length cd] 36
  have hfa := (Fr.refl [] w).alloc (.cells #[.int .i64 (R.mn : Int), .int .i64 (R.rm : Int), .slice ac R.c.length cc, .slice as_ R.s.length cs, .slice ad R.d.length cd] 36)
  have h1 := h.fr0 hfa
  have hu1 := SlF.fr0 hu hfa
  generalize hw1 : w.alloc (.cells #[.int .i64 (R.mn : Int), .int .i64 (R.rm : Int), .slice ac R.c.length cc, .slice as_ R.s.length cs, .slice ad R.d.length cd] 36) = w1 at *
  obtain ⟨b, off, rfl, hb, d0, d1⟩ := celAt h1.c.sl hc
  replace d0 : w1.cell? ⟨b, off + c * 2, none⟩ = some (.int .i64 (rk R c)) := d0
  replace d1 : w1.cell? ⟨b, off + c * 2 + 1, none⟩ = some (.int .i64 (rid R c)) := d1
  have d0' : ∀ X, Fr [] w1 X → X.cell? ⟨b, off + c * 2, none⟩ = some (.int .i64 (rk R c)) := fun X hX => (World.cell?_of_block (hX.block b hb (by simp))).trans d0
  have d1' : ∀ X, Fr [] w1 X → X.cell? ⟨b, off + c * 2 + 1, none⟩ = some (.int .i64 (rid R c)) := fun X hX => (World.cell?_of_block (hX.block b hb (by simp))).trans d1
  have hd := (Fr.refl [] w1).drew
  have hdw := h1.d.sl
  have c0 := B0.cell
  obtain ⟨Z, hZ⟩ : ∃ Z, Hid (Z = 16 * R.mn) := ⟨_, hidIt rfl⟩
  have hZ128 : Z ≤ 128 := by have := hZ.out; omega
  have hZm : (16 : Int) * (R.mn : Int) = (Z : Int) := by have := hZ.out; omega
  have hZw : IntKind.i64.wrap (Z : Int) = (Z : Int) := IntWalk.i64_in _ (by omega)
  have hzl : (zBy Z).length = Z := by simp [zBy]
  rw [← hZ.out] at hO
  clear h h1 hu
  generalize rclu R c bel = res at *
  unfold riV at *
  by_cases hk1 : rk R c = 1
  · obtain ⟨hi0, hi1⟩ := hids hk1
    rw [if_pos hk1] at hO
    obtain ⟨i, hi⟩ : ∃ i : Nat, rid R c = (i : Int) := ⟨(rid R c).toNat, by omega⟩
    have hil : i < R.d.length := by omega
    rw [hk1] at d0 d0'
    rw [hi] at d1 d1' hO
    rw [Int.toNat_natCast] at hO
    obtain ⟨db, doff, rfl, hdb, e0⟩ := SlT.at hdw hil
    have e0' : ∀ X, Fr [] w1 X → X.cell? ⟨db, doff + i, none⟩ = some (strL (R.d.getD i [])) := fun X hX => (World.cell?_of_block (hX.block db hdb (by simp))).trans e0
    generalize R.d.getD i [] = y at *
    clear hids hk1 hi hi0 hi1 hdw e0 d1 hu1
    go_enter Tryz.func68, Tryz.ntmps68
    go_wp2_with fail
    try rw [hw1]
    clear hw1
    refine wp_region_G (Fr [] w1.drew) [(true, 0), (true, 1), (true, 2), (true, 3), (true, 4), (true, 5), (true, 6), (true, 7), (true, 8), (true, 9), (true, 10)] (by as_aux_lemma => kernel_rfl) (by as_aux_lemma => kernel_rfl) (Fr.refl _ _) ?_
    simp only [inOrder, List.map_cons, List.map_nil, List.getD_cons_zero, List.getD_cons_succ]
    iterate 1
      refine wpG_pure fun K hK => ?_
      go_simp
      refine hK _ ?_
      clear hK K
    refine wpG_val (.slice (some ⟨db, doff, none⟩) R.d.length cd) (by first | rfl | go_simp) (fun X hX => by have cc0 := (B0.fr0 (hd.trans0 hX)).cell; go_simp) ?_
    simp only [Act.put, List.setIfInBounds_toArray, List.set_cons_zero, List.set_cons_succ]
    iterate 1
      refine wpG_pure fun K hK => ?_
      go_simp
      refine hK _ ?_
      clear hK K
    refine wpG_val (.slice (some ⟨b, off, none⟩) R.c.length cc) (by first | rfl | go_simp) (fun X hX => by have cc0 := (B0.fr0 (hd.trans0 hX)).cell; go_simp) ?_
    simp only [Act.put, List.setIfInBounds_toArray, List.set_cons_zero, List.set_cons_succ]
    iterate 3
      refine wpG_pure fun K hK => ?_
      go_simp
      refine hK _ ?_
      clear hK K
    refine wpG_val (.int .i64 (i : Int)) (by first | rfl | go_simp) (fun X hX => by have cc0 := d1' X (hd.trans0 hX); go_simp) ?_
    simp only [Act.put, List.setIfInBounds_toArray, List.set_cons_zero, List.set_cons_succ]
    iterate 1
      refine wpG_pure fun K hK => ?_
      go_simp
      refine hK _ ?_
      clear hK K
    refine wpG_val (strL y) (by first | rfl | go_simp) (fun X hX => by have cc0 := e0' X (hd.trans0 hX); go_simp) ?_
    simp only [Act.put, List.setIfInBounds_toArray, List.set_cons_zero, List.set_cons_succ]
    iterate 1
      refine wpG_pure fun K hK => ?_
      go_simp
      refine hK _ ?_
      clear hK K
    refine wpG_end ?_
    clear e0' d0' d1' B0
    go_wp2
    go_ret
    have hres' := hO.out
    subst hres'
    exact ⟨rfl, hfa.trans0 hd⟩
  · rw [if_neg hk1] at hO
    have hk1' : (rk R c == 1) = false := by simpa using hk1
    obtain ⟨kk, hkk⟩ : ∃ kk, Hid (kk = rk R c) := ⟨_, hidIt rfl⟩
    rw [← hkk.out] at d0 d0' hO hk1'
    clear hids d1 d1'
    by_cases hk0 : kk = 0
    · by_cases hcb : c < bel.length
      · obtain ⟨ub, uoff, rfl, hub, e0⟩ := SlT.at hu1 hcb
        have e0' : ∀ X, Fr [] w1 X → X.cell? ⟨ub, uoff + c, none⟩ = some (strL (bel.getD c [])) := fun X hX => (World.cell?_of_block (hX.block ub hub (by simp))).trans e0
        have e1 := e0' _ hd
        generalize bel.getD c [] = y at *
        by_cases hyz : y.length = Z
        · have hres : Hid (res = y) := hidIt (by rw [hO.out, if_pos ⟨hk0, hyz⟩])
          have hyz' : ((y.length : Int) == (Z : Int)) = true := by simp; omega
          subst hk0
          clear hO hu1 e0 hyz hdw
          go_enter Tryz.func68, Tryz.ntmps68
          go_wp2_with fail
          try rw [hw1]
          clear hw1
          refine wp_region_G (Fr [] w1.drew) [(true, 0), (true, 1), (true, 2), (true, 3), (true, 4), (true, 5), (true, 6), (true, 7), (true, 8), (true, 9), (true, 10), (true, 11), (true, 12), (true, 13), (true, 14), (true, 15), (true, 16), (true, 17), (true, 18), (true, 19), (true, 20), (true, 21), (true, 22), (true, 23)] (by as_aux_lemma => kernel_rfl) (by as_aux_lemma => kernel_rfl) (Fr.refl _ _) ?_
          simp only [inOrder, List.map_cons, List.map_nil, List.getD_cons_zero, List.getD_cons_succ]
          iterate 1
            refine wpG_pure fun K hK => ?_
            go_simp
            refine hK _ ?_
            clear hK K
          refine wpG_val (.slice (some ⟨b, off, none⟩) R.c.length cc) (by first | rfl | go_simp) (fun X hX => by have cc0 := (B0.fr0 (hd.trans0 hX)).cell; go_simp) ?_
          simp only [Act.put, List.setIfInBounds_toArray, List.set_cons_zero, List.set_cons_succ]
          iterate 3
            refine wpG_pure fun K hK => ?_
            go_simp
            refine hK _ ?_
            clear hK K
          refine wpG_val (.int .i64 0) (by first | rfl | go_simp) (fun X hX => by have cc0 := d0' X (hd.trans0 hX); go_simp) ?_
          simp only [Act.put, List.setIfInBounds_toArray, List.set_cons_zero, List.set_cons_succ]
          iterate 11
            refine wpG_pure fun K hK => ?_
            go_simp
            refine hK _ ?_
            clear hK K
          refine wpG_val (strL y) (by first | rfl | go_simp) (fun X hX => by have cc0 := e0' X (hd.trans0 hX); go_simp) ?_
          simp only [Act.put, List.setIfInBounds_toArray, List.set_cons_zero, List.set_cons_succ]
          iterate 2
            refine wpG_pure fun K hK => ?_
            go_simp
            refine hK _ ?_
            clear hK K
          refine wpG_val (.int .i64 (R.mn : Int)) (by first | rfl | go_simp) (fun X hX => by have cc0 := (B0.fr0 (hd.trans0 hX)).cell; go_simp) ?_
          simp only [Act.put, List.setIfInBounds_toArray, List.set_cons_zero, List.set_cons_succ]
          iterate 3
            refine wpG_pure fun K hK => ?_
            go_simp
            refine hK _ ?_
            clear hK K
          refine wpG_end ?_
          clear e0' d0' B0
          go_wp2
          go_ret
          have hres' := hres.out
          subst hres'
          exact ⟨rfl, hfa.trans0 hd⟩
        · have hres : Hid (res = zBy Z) := hidIt (by rw [hO.out, if_neg (fun e => hyz e.2)])
          have hyz' : ((y.length : Int) == (Z : Int)) = false := by simp; omega
          have c1 := (B0.fr0 hd).cell
          subst hk0
          clear hO hu1 e0 hyz hdw
          go_enter Tryz.func68, Tryz.ntmps68
          go_wp2_with fail
          try rw [hw1]
          clear hw1
          refine wp_region_G (Fr [] w1.drew) [(true, 0), (true, 1), (true, 2), (true, 3), (true, 4), (true, 5), (true, 6), (true, 7), (true, 8), (true, 9), (true, 10), (true, 11), (true, 12), (true, 13), (true, 14), (true, 15), (true, 16), (true, 17), (true, 18), (true, 19), (true, 20), (true, 21), (true, 22), (true, 23)] (by as_aux_lemma => kernel_rfl) (by as_aux_lemma => kernel_rfl) (Fr.refl _ _) ?_
          simp only [inOrder, List.map_cons, List.map_nil, List.getD_cons_zero, List.getD_cons_succ]
          iterate 1
            refine wpG_pure fun K hK => ?_
            go_simp
            refine hK _ ?_
            clear hK K
          refine wpG_val (.slice (some ⟨b, off, none⟩) R.c.length cc) (by first | rfl | go_simp) (fun X hX => by have cc0 := (B0.fr0 (hd.trans0 hX)).cell; go_simp) ?_
          simp only [Act.put, List.setIfInBounds_toArray, List.set_cons_zero, List.set_cons_succ]
          iterate 3
            refine wpG_pure fun K hK => ?_
            go_simp
            refine hK _ ?_
            clear hK K
          refine wpG_val (.int .i64 0) (by first | rfl | go_simp) (fun X hX => by have cc0 := d0' X (hd.trans0 hX); go_simp) ?_
          simp only [Act.put, List.setIfInBounds_toArray, List.set_cons_zero, List.set_cons_succ]
          iterate 11
            refine wpG_pure fun K hK => ?_
            go_simp
            refine hK _ ?_
            clear hK K
          refine wpG_val (strL y) (by first | rfl | go_simp) (fun X hX => by have cc0 := e0' X (hd.trans0 hX); go_simp) ?_
          simp only [Act.put, List.setIfInBounds_toArray, List.set_cons_zero, List.set_cons_succ]
          iterate 2
            refine wpG_pure fun K hK => ?_
            go_simp
            refine hK _ ?_
            clear hK K
          refine wpG_val (.int .i64 (R.mn : Int)) (by first | rfl | go_simp) (fun X hX => by have cc0 := (B0.fr0 (hd.trans0 hX)).cell; go_simp) ?_
          simp only [Act.put, List.setIfInBounds_toArray, List.set_cons_zero, List.set_cons_succ]
          iterate 3
            refine wpG_pure fun K hK => ?_
            go_simp
            refine hK _ ?_
            clear hK K
          refine wpG_end ?_
          obtain ⟨w2, hrun, hown, hg⟩ := makeY Z w1.drew (by omega)
          have hf2 := (Fr.refl [] w1.drew).grown hg (fun x hx => by cases hx)
          have hcv := conv_str (SlF.of_owns (f := byC) (l := zBy Z) (by rw [hzl]; exact hown) : SlY w2 _ _)
          simp only [World.size_drew] at hcv
          have c2 := ((B0.fr0 hd).fr0 hf2).cell
          clear hown hg
          go_wp2
          go_ret
          have hres' := hres.out
          subst hres'
          exact ⟨rfl, (hfa.trans0 hd).trans0 hf2⟩
      · have hyn : bel.getD c [] = [] := by rw [List.getD_eq_getElem?_getD, List.getElem?_eq_none (by omega)]; rfl
        have hres : Hid (res = zBy Z) := hidIt (by rw [hO.out, if_neg (fun e => by have := e.2; rw [hyn] at this; simp at this; have := hZ.out; omega)])
        have c1 := (B0.fr0 hd).cell
        have hcb' : ¬ (c : Int) < (bel.length : Int) := by omega
        subst hk0
        clear hO hu1 hdw hyn
        go_enter Tryz.func68, Tryz.ntmps68
        go_wp2_with fail
        try rw [hw1]
        clear hw1
        refine wp_region_G (Fr [] w1.drew) [(true, 0), (true, 1), (true, 2), (true, 3), (true, 4), (true, 5), (true, 6), (true, 7), (true, 8), (true, 9), (true, 10), (true, 11), (true, 12), (true, 13), (true, 14), (true, 15), (true, 16), (true, 17), (true, 18), (true, 19), (true, 20), (true, 21), (true, 22), (true, 23)] (by as_aux_lemma => kernel_rfl) (by as_aux_lemma => kernel_rfl) (Fr.refl _ _) ?_
        simp only [inOrder, List.map_cons, List.map_nil, List.getD_cons_zero, List.getD_cons_succ]
        iterate 1
          refine wpG_pure fun K hK => ?_
          go_simp
          refine hK _ ?_
          clear hK K
        refine wpG_val (.slice (some ⟨b, off, none⟩) R.c.length cc) (by first | rfl | go_simp) (fun X hX => by have cc0 := (B0.fr0 (hd.trans0 hX)).cell; go_simp) ?_
        simp only [Act.put, List.setIfInBounds_toArray, List.set_cons_zero, List.set_cons_succ]
        iterate 3
          refine wpG_pure fun K hK => ?_
          go_simp
          refine hK _ ?_
          clear hK K
        refine wpG_val (.int .i64 0) (by first | rfl | go_simp) (fun X hX => by have cc0 := d0' X (hd.trans0 hX); go_simp) ?_
        simp only [Act.put, List.setIfInBounds_toArray, List.set_cons_zero, List.set_cons_succ]
        iterate 18
          refine wpG_pure fun K hK => ?_
          go_simp
          refine hK _ ?_
          clear hK K
        refine wpG_end ?_
        obtain ⟨w2, hrun, hown, hg⟩ := makeY Z w1.drew (by omega)
        have hf2 := (Fr.refl [] w1.drew).grown hg (fun x hx => by cases hx)
        have hcv := conv_str (SlF.of_owns (f := byC) (l := zBy Z) (by rw [hzl]; exact hown) : SlY w2 _ _)
        simp only [World.size_drew] at hcv
        have c2 := ((B0.fr0 hd).fr0 hf2).cell
        clear hown hg
        go_wp2
        go_ret
        have hres' := hres.out
        subst hres'
        exact ⟨rfl, (hfa.trans0 hd).trans0 hf2⟩
    · have hres : Hid (res = zBy Z) := hidIt (by rw [hO.out, if_neg (fun e => hk0 e.1)])
      have c1 := (B0.fr0 hd).cell
      have hk0' : (kk == 0) = false := by simpa using hk0
      clear hO hu1 hdw
      go_enter Tryz.func68, Tryz.ntmps68
      go_wp2_with fail
      try rw [hw1]
      clear hw1
      refine wp_region_G (Fr [] w1.drew) [(true, 0), (true, 1), (true, 2), (true, 3), (true, 4), (true, 5), (true, 6), (true, 7), (true, 8), (true, 9), (true, 10), (true, 11), (true, 12), (true, 13), (true, 14), (true, 15), (true, 16), (true, 17), (true, 18), (true, 19), (true, 20), (true, 21), (true, 22), (true, 23)] (by as_aux_lemma => kernel_rfl) (by as_aux_lemma => kernel_rfl) (Fr.refl _ _) ?_
      simp only [inOrder, List.map_cons, List.map_nil, List.getD_cons_zero, List.getD_cons_succ]
      iterate 1
        refine wpG_pure fun K hK => ?_
        go_simp
        refine hK _ ?_
        clear hK K
      refine wpG_val (.slice (some ⟨b, off, none⟩) R.c.length cc) (by first | rfl | go_simp) (fun X hX => by have cc0 := (B0.fr0 (hd.trans0 hX)).cell; go_simp) ?_
      simp only [Act.put, List.setIfInBounds_toArray, List.set_cons_zero, List.set_cons_succ]
      iterate 3
        refine wpG_pure fun K hK => ?_
        go_simp
        refine hK _ ?_
        clear hK K
      refine wpG_val (.int .i64 kk) (by first | rfl | go_simp) (fun X hX => by have cc0 := d0' X (hd.trans0 hX); go_simp) ?_
      simp only [Act.put, List.setIfInBounds_toArray, List.set_cons_zero, List.set_cons_succ]
      iterate 18
        refine wpG_pure fun K hK => ?_
        go_simp
        refine hK _ ?_
        clear hK K
      refine wpG_end ?_
      obtain ⟨w2, hrun, hown, hg⟩ := makeY Z w1.drew (by omega)
      have hf2 := (Fr.refl [] w1.drew).grown hg (fun x hx => by cases hx)
      have hcv := conv_str (SlF.of_owns (f := byC) (l := zBy Z) (by rw [hzl]; exact hown) : SlY w2 _ _)
      simp only [World.size_drew] at hcv
      have c2 := ((B0.fr0 hd).fr0 hf2).cell
      clear hown hg
      go_wp2
      go_ret
      have hres' := hres.out
      subst hres'
      exact ⟨rfl, (hfa.trans0 hd).trans0 hf2⟩
end
end Go.Proofs.YtilhbjjjmdnjmaaGreat

namespace Go.Proofs.YtilhbjjjmdnjmaaGreat
open Go.RowKit Go.Maps
attribute [local go_sem] cells_str store_str len_str

theorem infoRC : (Tryz.prog.info? 86).map (fun i => (i.zero, i.size, i.bytes)) = some (some (.agg #[.int .i64 0, .int .i64 0]), 2, 16) := by kernel_rfl
theorem infoStr : (Tryz.prog.info? 9).map (fun i => (i.zero, i.size, i.bytes)) = some (some (.string ⟨#[]⟩), 1, 16) := by kernel_rfl
theorem flatC_length (l : List RCel) : (l.flatMap celC).length = l.length * 2 := by
  induction l with
  | nil => rfl
  | cons x l ih => simp [ih]; omega
theorem flatC_set (g : List RCel) (i : Nat) (hi : i < g.length) (s : RCel) : (g.set i s).flatMap celC = ((g.flatMap celC).set (i * 2) (.int .i64 s.1)).set (i * 2 + 1) (.int .i64 s.2) := by
  have hl := flatC_length g
  apply List.ext_getElem?
  intro k
  obtain ⟨q, j, hj, rfl⟩ : ∃ q j, j < 2 ∧ k = q * 2 + j := ⟨k / 2, k % 2, Nat.mod_lt _ (by omega), by omega⟩
  rw [flat_at celC 2 (fun _ => rfl) _ q j hj]
  simp only [List.getElem?_set, List.length_set, hl, flat_at celC 2 (fun _ => rfl) _ q j hj]
  by_cases hq : i = q
  · subst hq
    match j, hj with
    | 0, _ => simp [hi]
    | 1, _ => simp [hi]; omega
  · rw [if_neg hq, if_neg (by omega), if_neg (by omega)]
theorem celC_one {x : RCel} : ∀ u ∈ celC x, u.oneCell' = true := by
  intro u hu
  simp only [List.mem_cons, List.not_mem_nil, or_false] at hu
  rcases hu with rfl | rfl <;> rfl
theorem strC_one {x : By} : ∀ u ∈ strC x, u.oneCell' = true := by
  intro u hu
  simp only [List.mem_cons, List.not_mem_nil, or_false] at hu
  rcases hu with rfl
  rfl
theorem flatT_length (l : List By) : (l.flatMap strC).length = l.length := by
  induction l with
  | nil => rfl
  | cons x l ih => simp [ih]
theorem flatT_set (g : List By) (i : Nat) (hi : i < g.length) (s : By) : (g.set i s).flatMap strC = (g.flatMap strC).set i (strL s) := by
  apply List.ext_getElem?
  intro k
  have h1 := flat_at strC 1 (fun _ => rfl) (g.set i s) k 0 (by omega)
  have h2 := flat_at strC 1 (fun _ => rfl) g k 0 (by omega)
  rw [Nat.mul_one, Nat.add_zero] at h1 h2
  rw [h1]
  simp only [List.getElem?_set, flatT_length, h2]
  by_cases hq : i = k
  · subst hq
    simp [hi]
  · rw [if_neg hq, if_neg hq]
theorem RowW.of_owns {α : Type} {S : Nat → Prop} {w : World} {f : α → List Value} {base : Nat} {e : TypeId} {size : Nat} {v : Value} {l : List α} (h : w.ownsRow base e size v l.length (l.flatMap f)) (hS : ∀ k, base ≤ k → S k) : RowW S w f v l :=
  ⟨SlF.of_owns h, okV.of_owns h, fun _ k hk => hS k (own_base h k hk)⟩
theorem RowW.fr {α : Type} {S : Nat → Prop} {w w' : World} {f : α → List Value} {v : Value} {l : List α} {L : List Nat} (h : RowW S w f v l) (hf : Fr L w w') (hL : ∀ k, v.ownBlock = some k → k ∉ L) : RowW S w' f v l := ⟨SlF.fr h.sl hf hL, h.ok, h.own⟩
section
variable {S : Nat → Prop} {vc vs vd : Value} {R : RIm}
theorem RiW.setC {w w' : World} (h : RiW S w vc vs vd R) {vc' : Value} {l : List RCel} (hf : Fr [] w w') (hc : RowW S w' celC vc' l) (hok : OkR { R with c := l }) : RiW S w' vc' vs vd { R with c := l } := by
  have h' := h.fr0 hf
  exact ⟨hc, h'.s, h'.d, hok⟩
theorem RiW.setD {w w' : World} (h : RiW S w vc vs vd R) {vd' : Value} {l : List By} (hf : Fr [] w w') (hd : RowW S w' strC vd' l) (hok : OkR { R with d := l }) : RiW S w' vc vs vd' { R with d := l } := by
  have h' := h.fr0 hf
  exact ⟨h'.c, h'.s, hd, hok⟩
def setPost (S : Nat → Prop) (w : World) (vs vd : Value) (R' : RIm) (e : Ending) (w' : World) : Prop := ∃ vc', e = .returned (riV R' vc' vs vd) ∧ RiW S w' vc' vs vd R' ∧ Fr [] w w' ∧ ∀ k, vc'.ownBlock = some k → w.heap.size ≤ k
set_option maxRecDepth 100000 in
set_option maxHeartbeats 3200000 in
theorem rSet_calls (c : Nat) (x : RCel) (w : World) (h : RiW S w vc vs vd R) (hc : c < R.c.length) (hS : ∀ k, w.heap.size ≤ k → S k) (hok : OkR (rset R c x)) :
    Calls Tryz.prog 71 #[riV R vc vs vd, .int .i64 (c : Int), .agg #[.int .i64 x.1, .int .i64 x.2]] w (setPost S w vs vd (rset R c x)) := by
  obtain ⟨ac, cc, as_, cs, ad, cd, rfl, rfl, rfl, hcc, hcs, hcd⟩ := h.open
  have hcl := h.ok.cl
  have B0 := Blk.new w [.int .i64 (R.mn : Int), .int .i64 (R.rm : Int), .slice ac R.c.length cc, .slice as_ R.s.length cs, .slice ad R.d.length cd] 36
  have hfa := (Fr.refl [] w).alloc (.cells #[.int .i64 (R.mn : Int), .int .i64 (R.rm : Int), .slice ac R.c.length cc, .slice as_ R.s.length cs, .slice ad R.d.length cd] 36)
  have B1 := Blk.new' (w := w.alloc (.cells #[.int .i64 (R.mn : Int), .int .i64 (R.rm : Int), .slice ac R.c.length cc, .slice as_ R.s.length cs, .slice ad R.d.length cd] 36)) (n := w.heap.size + 1) (by simp) [.int .i64 x.1, .int .i64 x.2] 86
  replace hfa := hfa.alloc (.cells #[.int .i64 x.1, .int .i64 x.2] 86)
  replace B0 := B0.alloc (.cells #[.int .i64 x.1, .int .i64 x.2] 86)
  have B2 := Blk.new' (w := (w.alloc (.cells #[.int .i64 (R.mn : Int), .int .i64 (R.rm : Int), .slice ac R.c.length cc, .slice as_ R.s.length cs, .slice ad R.d.length cd] 36)).alloc (.cells #[.int .i64 x.1, .int .i64 x.2] 86)) (n := w.heap.size + 2) (by simp) [.int .i64 0, .int .i64 0, .slice none 0 0, .slice none 0 0, .slice none 0 0] 36
  replace hfa := hfa.alloc (.cells #[.int .i64 0, .int .i64 0, .slice none 0 0, .slice none 0 0, .slice none 0 0] 36)
  replace B0 := B0.alloc (.cells #[.int .i64 0, .int .i64 0, .slice none 0 0, .slice none 0 0, .slice none 0 0] 36)
  replace B1 := B1.alloc (.cells #[.int .i64 0, .int .i64 0, .slice none 0 0, .slice none 0 0, .slice none 0 0] 36)
  have hz : (((w.alloc (.cells #[.int .i64 (R.mn : Int), .int .i64 (R.rm : Int), .slice ac R.c.length cc, .slice as_ R.s.length cs, .slice ad R.d.length cd] 36)).alloc (.cells #[.int .i64 x.1, .int .i64 x.2] 86)).alloc (.cells #[.int .i64 0, .int .i64 0, .slice none 0 0, .slice none 0 0, .slice none 0 0] 36)).heap.size = w.heap.size + 3 := by simp
  generalize hw1 : ((w.alloc (.cells #[.int .i64 (R.mn : Int), .int .i64 (R.rm : Int), .slice ac R.c.length cc, .slice as_ R.s.length cs, .slice ad R.d.length cd] 36)).alloc (.cells #[.int .i64 x.1, .int .i64 x.2] 86)).alloc (.cells #[.int .i64 0, .int .i64 0, .slice none 0 0, .slice none 0 0, .slice none 0 0] 36) = w1 at *
  have h1 := h.fr0 hfa
  have hc0 := h1.c
  have c0 := B0.cell
  have hfe := (Fr.refl [] w1).alloc (.cells #[] 86)
  have hown0 := World.ownsRow_made (e := 86) (base := w1.heap.size) (size := 2) w1 #[] 0 (Nat.le_refl _) (by decide) rfl
  rw [hz] at hown0
  have hc1 := hc0.fr0 hfe
  have c1 := (B0.fr0 hfe).cell
  unfold riV
  go_enter Tryz.func71, Tryz.ntmps71
  go_wp2_with (at_builtin; refine Hid.out ?_)
  refine hidIt ?_
  try rw [hw1]
  refine wpList_append_sl 33 86 (.agg #[.int .i64 0, .int .i64 0]) 2 16 Tryz.underlying33 infoRC rfl (by decide) (by decide) rfl _ _ rfl (w.heap.size + 3) (.slice (some ⟨w.heap.size + 3, 0, none⟩) 0 0) 0 [] rfl hown0 (.slice ac R.c.length cc) R.c.length (R.c.flatMap celC) hc1.sl hc1.ok (flatC_length R.c) (flat_one (fun _ => celC_one) R.c) rfl (by omega) (by omega) (by simp [hz]) ?_
  intro v2 w2 hown2 hgrow2
  rw [Nat.zero_add, List.nil_append] at hown2
  obtain ⟨g, gc, rfl, hg, hgc⟩ := owns_succ hown2 (by omega)
  have hf2 : Fr [] w1 w2 := hfe.grown hgrow2 (fun y hy => .inr (by have : w.heap.size + 3 = y := by simpa [Value.ownBlock] using hy
                                                                   omega))
  have B02 := B0.fr0 hf2
  have B12 := B1.fr0 hf2
  have B22 := B2.fr0 hf2
  have h2 := h1.fr0 hf2
  have hput := owns_put (owns_put hown2 (c * 2) (.int .i64 x.1)) (c * 2 + 1) (.int .i64 x.2)
  rw [← flatC_set R.c c hc x] at hput
  have hat0 := owns_at hown2 (j := c * 2) (u := .int .i64 (R.c.getD c zRC).1) (by
    have := flat_at celC 2 (fun _ => rfl) R.c c 0 (by omega)
    rw [Nat.add_zero] at this
    rw [this, List.getD_eq_getElem?_getD, List.getElem?_eq_getElem hc]; rfl)
  have hat1 := owns_at hown2 (j := c * 2 + 1) (u := .int .i64 (R.c.getD c zRC).2) (by
    have := flat_at celC 2 (fun _ => rfl) R.c c 1 (by omega)
    rw [this, List.getD_eq_getElem?_getD, List.getElem?_eq_getElem hc]; rfl)
  obtain ⟨a0, a1⟩ := hat0
  obtain ⟨a2, a3⟩ := hat1
  have hfp : Fr [] w1 ((w2.setCell ⟨g, c * 2, none⟩ (.int .i64 x.1)).setCell ⟨g, c * 2 + 1, none⟩ (.int .i64 x.2)) := (hf2.setCell (.inr (by rw [hz]; exact hg)) _).setCell (.inr (by rw [hz]; exact hg)) _
  have d0 := B02.cell
  have d1 := B12.cell
  have d2 := B22.cell
  have g0 := B02.frozen
  have g2 := B22.frozen
  have l0 := B02.lt
  clear hown0 hc0 hc1 c0 c1 hgrow2 hown2 hfe B0 B1 B2
  have hh := h
  clear h
  have e2 : w.heap.size + 1 + 1 = w.heap.size + 2 := rfl
  go_wp2
  have hr1 := owns_setCell (owns_setCell (owns_setCell (owns_setCell (owns_setCell (owns_setCell hput (a := ⟨w.heap.size, 2, none⟩) (by show w.heap.size < w.heap.size + 3; omega) (.slice (some ⟨g, 0, none⟩) R.c.length gc)) (a := ⟨w.heap.size + 1 + 1, 0, none⟩) (by show w.heap.size + 1 + 1 < w.heap.size + 3; omega) (.int .i64 (R.mn : Int))) (a := ⟨w.heap.size + 1 + 1, 1, none⟩) (by show w.heap.size + 1 + 1 < w.heap.size + 3; omega) (.int .i64 (R.rm : Int))) (a := ⟨w.heap.size + 1 + 1, 2, none⟩) (by show w.heap.size + 1 + 1 < w.heap.size + 3; omega) (.slice (some ⟨g, 0, none⟩) R.c.length gc)) (a := ⟨w.heap.size + 1 + 1, 3, none⟩) (by show w.heap.size + 1 + 1 < w.heap.size + 3; omega) (.slice as_ R.s.length cs)) (a := ⟨w.heap.size + 1 + 1, 4, none⟩) (by show w.heap.size + 1 + 1 < w.heap.size + 3; omega) (.slice ad R.d.length cd)
  have hF := ((((((hfa.trans0 hfp).setCell (p := ⟨w.heap.size, 2, none⟩) (.inr (Nat.le_refl _)) (.slice (some ⟨g, 0, none⟩) R.c.length gc)).setCell (p := ⟨w.heap.size + 1 + 1, 0, none⟩) (.inr (by show w.heap.size ≤ w.heap.size + 1 + 1; omega)) (.int .i64 (R.mn : Int))).setCell (p := ⟨w.heap.size + 1 + 1, 1, none⟩) (.inr (by show w.heap.size ≤ w.heap.size + 1 + 1; omega)) (.int .i64 (R.rm : Int))).setCell (p := ⟨w.heap.size + 1 + 1, 2, none⟩) (.inr (by show w.heap.size ≤ w.heap.size + 1 + 1; omega)) (.slice (some ⟨g, 0, none⟩) R.c.length gc)).setCell (p := ⟨w.heap.size + 1 + 1, 3, none⟩) (.inr (by show w.heap.size ≤ w.heap.size + 1 + 1; omega)) (.slice as_ R.s.length cs)).setCell (p := ⟨w.heap.size + 1 + 1, 4, none⟩) (.inr (by show w.heap.size ≤ w.heap.size + 1 + 1; omega)) (.slice ad R.d.length cd)
  refine bodyPost_ret (v := riV (rset R c x) (.slice (some ⟨g, 0, none⟩) R.c.length gc) (.slice as_ R.s.length cs) (.slice ad R.d.length cd)) (by simp [results, Tryz.results71, go_sem, riV, rset, d2]) rfl ⟨_, rfl, hh.setC hF (RowW.of_owns (by rw [List.length_set]; exact hr1) (fun k hk => hS k (by omega))) hok, hF, fun k hk => by have := own_base hr1 k hk; omega⟩
end
end Go.Proofs.YtilhbjjjmdnjmaaGreat

namespace Go.Proofs.YtilhbjjjmdnjmaaGreat
open Go.RowKit Go.Maps
attribute [local go_sem] cells_str store_str len_str

section
variable {R : RIm} {y : By}
theorem OkR.push (h : OkR R) (hy : y.length = 16 * R.mn) (hd : R.d.length < 1000000) : OkR { R with d := R.d ++ [y] } := by
  have hl : (R.d ++ [y]).length = R.d.length + 1 := by simp
  refine ⟨h.mp, h.m8, h.rm, h.cl, h.sl, h.ss, by show (R.d ++ [y]).length ≤ _; omega, fun x hx h1 => ?_, fun q hq x hx h1 => ?_, fun z hz => ?_⟩
  · have := h.ids x hx h1
    show _ ∧ x.2 < ((R.d ++ [y]).length : Int)
    omega
  · have := h.ids2 q hq x hx h1
    show _ ∧ x.2 < ((R.d ++ [y]).length : Int)
    omega
  · rcases List.mem_append.1 hz with hz | hz
    · exact h.dz z hz
    · rw [List.mem_singleton.1 hz]; exact hy
theorem OkR.setc (h : OkR R) (c : Nat) {x : RCel} (hx : x.1 = 1 → 0 ≤ x.2 ∧ x.2 < R.d.length) : OkR (rset R c x) := by
  refine ⟨h.mp, h.m8, h.rm, by show (R.c.set c x).length ≤ _; rw [List.length_set]; exact h.cl, h.sl, h.ss, h.dl, fun z hz h1 => ?_, h.ids2, h.dz⟩
  rcases List.mem_or_eq_of_mem_set hz with hz | rfl
  · exact h.ids z hz h1
  · exact hx h1
theorem OkR.setd (h : OkR R) (hy : y.length = 16 * R.mn) (i : Nat) : OkR { R with d := R.d.set i y } := by
  have hl : (R.d.set i y).length = R.d.length := List.length_set
  refine ⟨h.mp, h.m8, h.rm, h.cl, h.sl, h.ss, by show (R.d.set i y).length ≤ _; rw [hl]; exact h.dl, fun x hx h1 => ?_, fun q hq x hx h1 => ?_, fun z hz => ?_⟩
  · have := h.ids x hx h1
    show _ ∧ x.2 < ((R.d.set i y).length : Int)
    omega
  · have := h.ids2 q hq x hx h1
    show _ ∧ x.2 < ((R.d.set i y).length : Int)
    omega
  · rcases List.mem_or_eq_of_mem_set hz with hz | rfl
    · exact h.dz z hz
    · exact hy
theorem OkR.put (h : OkR R) (c : Nat) (hy : y.length = 16 * R.mn) (hd : R.d.length < 1000000) : OkR (rput R c y) := by
  unfold rput
  split
  · exact h.setd hy _
  · have := OkR.setc (h.push hy hd) c (x := (1, (R.d.length : Int))) (fun _ => ⟨by omega, by show (R.d.length : Int) < ((R.d ++ [y]).length : Int); simp; omega⟩)
    exact this
theorem OkR.at (h : OkR R) {c : Nat} (hc : c < R.c.length) (h1 : rk R c = 1) : ∃ i : Nat, rid R c = (i : Int) ∧ i < R.d.length := by
  have := h.ids (R.c.getD c zRC) (by rw [List.getD_eq_getElem?_getD, List.getElem?_eq_getElem hc]; exact List.getElem_mem _) h1
  exact ⟨(rid R c).toNat, by have := this.1; unfold rid at *; omega, by have := this.2; unfold rid; omega⟩
end
section
variable {S : Nat → Prop} {vc vs vd : Value} {R : RIm}
def putPost (S : Nat → Prop) (w : World) (vs : Value) (R' : RIm) (e : Ending) (w' : World) : Prop := ∃ vc' vd', e = .returned (riV R' vc' vs vd') ∧ RiW S w' vc' vs vd' R' ∧ Fr [] w w'
set_option maxRecDepth 100000 in
set_option maxHeartbeats 3200000 in
theorem rPut_calls (c : Nat) (y : By) (w : World) (h : RiW S w vc vs vd R) (hc : c < R.c.length) (hS : ∀ k, w.heap.size ≤ k → S k) (hy : y.length = 16 * R.mn) (hd : R.d.length < 1000000) :
    Calls Tryz.prog 72 #[riV R vc vs vd, .int .i64 (c : Int), strL y] w (putPost S w vs (rput R c y)) := by
  have hh := h
  have kO := fun vd W h => rOwn_calls (S := S) (vc := vc) (vs := vs) (vd := vd) (R := R) c W h hc
  have kS := fun (vd : Value) W (h : RiW S W vc vs vd { R with d := R.d ++ [y] }) hS hok => rSet_calls (S := S) (vc := vc) (vs := vs) (vd := vd) (R := { R with d := R.d ++ [y] }) c (1, (R.d.length : Int)) W h hc hS hok
  obtain ⟨ac, cc, as_, cs, ad, cd, rfl, rfl, rfl, hcc, hcs, hcd⟩ := h.open
  have hcl := h.ok.cl
  have hokP := h.ok.push hy hd
  have hokS := OkR.setc hokP c (x := (1, (R.d.length : Int))) (fun _ => ⟨by omega, by show (R.d.length : Int) < ((R.d ++ [y]).length : Int); simp; omega⟩)
  have hokD := fun i => h.ok.setd hy i
  have hown1 : Hid (rown R c = true → ∃ i : Nat, rid R c = (i : Int) ∧ i < R.d.length) := hidIt (fun ho => h.ok.at hc (by unfold rown at ho; simp at ho; exact ho.1))
  have hP : Hid (rput R c y = if rown R c = true then { R with d := R.d.set (rid R c).toNat y } else { R with d := R.d ++ [y], c := R.c.set c (1, (R.d.length : Int)) }) := hidIt rfl
  obtain ⟨sy, hsy⟩ : ∃ s, Value.string s = strL y := ⟨_, rfl⟩
  have HY := hidIt hsy
  rw [← hsy]
  clear hsy
  have B0 := Blk.new w [.int .i64 (R.mn : Int), .int .i64 (R.rm : Int), .slice ac R.c.length cc, .slice as_ R.s.length cs, .slice ad R.d.length cd] 36
  have hfa := (Fr.refl [] w).alloc (.cells #[.int .i64 (R.mn : Int), .int .i64 (R.rm : Int), .slice ac R.c.length cc, .slice as_ R.s.length cs, .slice ad R.d.length cd] 36)
  have B2 := Blk.new' (w := w.alloc (.cells #[.int .i64 (R.mn : Int), .int .i64 (R.rm : Int), .slice ac R.c.length cc, .slice as_ R.s.length cs, .slice ad R.d.length cd] 36)) (n := w.heap.size + 1) (by simp) [.int .i64 0, .int .i64 0, .slice none 0 0, .slice none 0 0, .slice none 0 0] 36
  replace hfa := hfa.alloc (.cells #[.int .i64 0, .int .i64 0, .slice none 0 0, .slice none 0 0, .slice none 0 0] 36)
  replace B0 := B0.alloc (.cells #[.int .i64 0, .int .i64 0, .slice none 0 0, .slice none 0 0, .slice none 0 0] 36)
  have hz : ((w.alloc (.cells #[.int .i64 (R.mn : Int), .int .i64 (R.rm : Int), .slice ac R.c.length cc, .slice as_ R.s.length cs, .slice ad R.d.length cd] 36)).alloc (.cells #[.int .i64 0, .int .i64 0, .slice none 0 0, .slice none 0 0, .slice none 0 0] 36)).heap.size = w.heap.size + 2 := by simp
  generalize hw1 : (w.alloc (.cells #[.int .i64 (R.mn : Int), .int .i64 (R.rm : Int), .slice ac R.c.length cc, .slice as_ R.s.length cs, .slice ad R.d.length cd] 36)).alloc (.cells #[.int .i64 0, .int .i64 0, .slice none 0 0, .slice none 0 0, .slice none 0 0] 36) = w1 at *
  have h1 := h.fr0 hfa
  have c0 := B0.cell
  have hfe := (Fr.refl [] w1).alloc (.cells #[] 9)
  have hown0 := World.ownsRow_made (e := 9) (base := w1.heap.size) (size := 1) w1 #[] 0 (Nat.le_refl _) (by decide) rfl
  rw [hz] at hown0
  have hd1 := h1.d.fr0 hfe
  have c1 := (B0.fr0 hfe).cell
  unfold riV at *
  go_enter Tryz.func72, Tryz.ntmps72
  go_wp2_with (at_builtin; refine Hid.out ?_)
  refine hidIt ?_
  try rw [hw1]
  refine wpList_append_sl 25 9 (.string ⟨#[]⟩) 1 16 Tryz.underlying25 infoStr rfl (by decide) (by decide) rfl _ _ rfl (w.heap.size + 2) (.slice (some ⟨w.heap.size + 2, 0, none⟩) 0 0) 0 [] rfl hown0 (.slice ad R.d.length cd) R.d.length (R.d.flatMap strC) hd1.sl hd1.ok (by rw [flatT_length, Nat.mul_one]) (flat_one (fun _ => strC_one) R.d) rfl (by omega) (by omega) (by simp [hz]) ?_
  intro v2 w2 hown2 hgrow2
  rw [Nat.zero_add, List.nil_append] at hown2
  have hf2 : Fr [] w1 w2 := hfe.grown hgrow2 (fun y hy => .inr (by have : w.heap.size + 2 = y := by simpa [Value.ownBlock] using hy
                                                                   omega))
  have hz2 := hf2.size
  have B02 := B0.fr0 hf2
  have B22 := B2.fr0 hf2
  have h2 := h1.fr0 hf2
  have hF2 := hfa.trans0 hf2
  obtain ⟨a2, c2, rfl, hc2, _⟩ := Sl.of_owns hown2
  have d0 := B02.cell
  clear hown0 hd1 c0 c1 hgrow2 hfe B0 B2 h h1 hf2 hfa hw1
  go_wp2_with fail
  refine (kO _ _ h2).mono ?_
  rintro e w3 ⟨rfl, hf3⟩
  have h3 := h2.fr0 hf3
  have B03 := B02.fr0 hf3
  have B23 := B22.fr0 hf3
  have hF3 := hF2.trans0 hf3
  have hown3 := owns_fr hown2 hf3 (fun _ _ h => by cases h)
  have hz3 := hf3.size
  clear kO h2 B02 B22 hF2 hown2 hf3 d0
  cases ho : rown R c with
  | true =>
    obtain ⟨i, hi, hil⟩ := hown1.out ho
    rw [ho, if_pos rfl, hi, Int.toNat_natCast] at hP
    rw [hP.out]
    obtain ⟨g, gc, hgv, hg, hgc⟩ := owns_succ hown3 (by omega)
    cases hgv
    obtain ⟨cb, coff, rfl, hcb, e0, e1⟩ := celAt h3.c.sl hc
    replace e1 : w3.cell? ⟨cb, coff + c * 2 + 1, none⟩ = some (.int .i64 (rid R c)) := e1
    rw [hi] at e1
    have hput := owns_put hown3 i (.string sy)
    rw [HY.out, ← flatT_set R.d i hil y] at hput
    rw [← HY.out] at hput
    obtain ⟨p0, p1⟩ := owns_at hown3 (j := i) (u := strL (R.d.getD i [])) (by
      have := flat_at strC 1 (fun _ => rfl) R.d i 0 (by omega)
      rw [Nat.mul_one, Nat.add_zero] at this
      rw [this, List.getD_eq_getElem?_getD, List.getElem?_eq_getElem hil]; rfl)
    have hokD' := hidIt (hokD i)
    have d0 := B03.cell
    have d2 := B23.cell
    have g0 := B03.frozen
    have g2 := B23.frozen
    have hP' := hidIt hP.out
    clear hP hown1 hokP hokS hokD kS e0 ho hi
    go_wp2
    have hr1 := (owns_setCell (owns_setCell (owns_setCell (owns_setCell (owns_setCell (owns_setCell hput (a := ⟨w.heap.size, 4, none⟩) (by simp) (.slice (some ⟨g, 0, none⟩) R.d.length c2)) (a := ⟨w.heap.size + 1, 0, none⟩) (by simp) (.int .i64 (R.mn : Int))) (a := ⟨w.heap.size + 1, 1, none⟩) (by simp) (.int .i64 (R.rm : Int))) (a := ⟨w.heap.size + 1, 2, none⟩) (by simp) (.slice (some ⟨cb, coff, none⟩) R.c.length cc)) (a := ⟨w.heap.size + 1, 3, none⟩) (by simp) (.slice as_ R.s.length cs)) (a := ⟨w.heap.size + 1, 4, none⟩) (by simp) (.slice (some ⟨g, 0, none⟩) R.d.length c2))
    have hF := (((((((hF3.setCell (p := ⟨g, i, none⟩) (.inr (by show w.heap.size ≤ g; omega)) (.string sy)).setCell (p := ⟨w.heap.size, 4, none⟩) (.inr (by simp)) (.slice (some ⟨g, 0, none⟩) R.d.length c2)).setCell (p := ⟨w.heap.size + 1, 0, none⟩) (.inr (by simp)) (.int .i64 (R.mn : Int))).setCell (p := ⟨w.heap.size + 1, 1, none⟩) (.inr (by simp)) (.int .i64 (R.rm : Int))).setCell (p := ⟨w.heap.size + 1, 2, none⟩) (.inr (by simp)) (.slice (some ⟨cb, coff, none⟩) R.c.length cc)).setCell (p := ⟨w.heap.size + 1, 3, none⟩) (.inr (by simp)) (.slice as_ R.s.length cs)).setCell (p := ⟨w.heap.size + 1, 4, none⟩) (.inr (by simp)) (.slice (some ⟨g, 0, none⟩) R.d.length c2))
    refine bodyPost_ret (v := riV { R with d := R.d.set i y } (.slice (some ⟨cb, coff, none⟩) R.c.length cc) (.slice as_ R.s.length cs) (.slice (some ⟨g, 0, none⟩) R.d.length c2)) (by simp [results, Tryz.results72, go_sem, riV, d2]) rfl ⟨_, _, by rw [hP'.out], by rw [hP'.out]; exact hh.setD hF (RowW.of_owns (by rw [List.length_set]; exact hr1) (fun k hk => hS k (by omega))) hokD'.out, hF⟩
  | false =>
    rw [ho, if_neg (by simp)] at hP
    rw [hP.out]
    have hone : ∀ u ∈ [Value.string sy], u.oneCell' = true := fun u hu => by rw [List.mem_singleton.1 hu]; rfl
    have c3 := B03.cell
    clear hown1 hokD ho
    go_wp2_with (at_builtin; refine Hid.out ?_)
    refine hidIt ?_
    refine wpList_append1 25 9 _ 1 16 Tryz.underlying25 infoStr rfl (by decide) (by decide) rfl _ _ rfl (w.heap.size + 2) _ _ _ rfl (hown3.alloc _) [.string sy] rfl hone w3.heap.size rfl (Blk.new' (by simp) _ _) (by omega) (by simp; omega) ?_
    intro v4 w4 hown4 hgrow4 hloc4
    have hP' := hidIt hP.out
    have hF4 : Fr [] w w4 := (hF3.alloc _).grown hgrow4 (fun x hx => .inr (by have := own_base hown3 x hx; omega))
    have hfx : ∀ b cs t, Blk w3 b cs t → b < w.heap.size + 2 → Blk w4 b cs t := fun b cs t hB hb => by
      have h5 := (hB.alloc (.cells #[.string sy] 9)).fr (Fr.of_grown hgrow4) (fun hm => by have := own_base hown3 b (Option.mem_toList.1 hm); omega)
      exact h5
    have B04 := hfx _ _ _ B03 (by omega)
    have B24 := hfx _ _ _ B23 (by omega)
    have e1 : R.d.flatMap strC ++ [Value.string sy] = (R.d ++ [y]).flatMap strC := by rw [List.flatMap_append, HY.out]; rfl
    rw [e1] at hown4
    obtain ⟨a4, c4, rfl, hc4, _⟩ := Sl.of_owns hown4
    have d0 := B04.cell
    have g0 := B04.frozen
    have l0 := B04.lt
    have hr1 := owns_setCell hown4 (a := ⟨w.heap.size, 4, none⟩) (by show w.heap.size < w.heap.size + 2; omega) (.slice a4 (R.d.length + 1) c4)
    have hF5 := hF4.setCell (p := ⟨w.heap.size, 4, none⟩) (.inr (Nat.le_refl _)) (.slice a4 (R.d.length + 1) c4)
    have B05 := B04.setCell 4 (.slice a4 (R.d.length + 1) c4)
    have B25 := B24.other (p := ⟨w.heap.size, 4, none⟩) (by show w.heap.size + 1 ≠ w.heap.size; omega) (.slice a4 (R.d.length + 1) c4)
    have h5 := hh.setD hF5 (RowW.of_owns (l := R.d ++ [y]) (by rw [List.length_append]; exact hr1) (fun k hk => hS k (by omega))) hokP
    have hS5 : ∀ k, (w4.setCell ⟨w.heap.size, 4, none⟩ (.slice a4 (R.d.length + 1) c4)).heap.size ≤ k → S k := fun k hk => hS k (by have := hF5.size; omega)
    have kS5 := kS _ _ h5 hS5 hokS
    try dsimp only at kS5
    have d5 := B05.cell
    have hb5 : ∀ k, (Value.slice a4 (R.d.length + 1) c4).ownBlock = some k → w.heap.size + 2 ≤ k := fun k hk => own_base hown4 k hk
    have hgrow4' : w.heap.size + 2 ≤ w4.heap.size := by have := B24.lt; have := hF4.size; have := hfx; omega
    clear hP hokP hokS kS hown4 hgrow4 hloc4 hown3 hS5 h5 hr1 B03 B23 h3 hfx e1 hone
    go_wp2_with fail
    refine kS5.mono ?_
    rintro e w6 ⟨vc6, rfl, h6, hf6, hn6⟩
    have B26 := B25.fr0 hf6
    have hF6 := hF5.trans0 hf6
    have hl6 : (rset { R with d := R.d ++ [y] } c (1, (R.d.length : Int))).c.length = R.c.length := List.length_set
    obtain ⟨ac6, cc6, as6, cs6, ad6, cd6, rfl, hv1, hv2, _⟩ := h6.open
    rw [hl6] at *
    have d2 := B26.cell
    have g2 := B26.frozen
    have hz5 : w.heap.size + 2 ≤ (w4.setCell ⟨w.heap.size, 4, none⟩ (.slice a4 (R.d.length + 1) c4)).heap.size := by have := hgrow4' ; simp only [World.size_setCell]; omega
    have hF7 := (((((hF6.setCell (p := ⟨w.heap.size + 1, 0, none⟩) (.inr (by simp)) (.int .i64 (R.mn : Int))).setCell (p := ⟨w.heap.size + 1, 1, none⟩) (.inr (by simp)) (.int .i64 (R.rm : Int))).setCell (p := ⟨w.heap.size + 1, 2, none⟩) (.inr (by simp)) (.slice ac6 R.c.length cc6)).setCell (p := ⟨w.heap.size + 1, 3, none⟩) (.inr (by simp)) (.slice as_ R.s.length cs)).setCell (p := ⟨w.heap.size + 1, 4, none⟩) (.inr (by simp)) (.slice a4 (R.d.length + 1) c4))
    clear B04 B24 B05 B25 d0 d5 g0 l0 c3 hv1 hv2 hl6
    have hG := ((((((Fr.refl [w.heap.size + 1] w6).setCell (p := ⟨w.heap.size + 1, 0, none⟩) (.inl (by simp)) (.int .i64 (R.mn : Int))).setCell (p := ⟨w.heap.size + 1, 1, none⟩) (.inl (by simp)) (.int .i64 (R.rm : Int))).setCell (p := ⟨w.heap.size + 1, 2, none⟩) (.inl (by simp)) (.slice ac6 R.c.length cc6)).setCell (p := ⟨w.heap.size + 1, 3, none⟩) (.inl (by simp)) (.slice as_ R.s.length cs)).setCell (p := ⟨w.heap.size + 1, 4, none⟩) (.inl (by simp)) (.slice a4 (R.d.length + 1) c4))
    unfold riV rset
    go_wp2
    refine bodyPost_ret (v := riV { R with d := R.d ++ [y], c := R.c.set c (1, (R.d.length : Int)) } (.slice ac6 R.c.length cc6) (.slice as_ R.s.length cs) (.slice a4 (R.d.length + 1) c4)) (by simp [results, Tryz.results72, go_sem, riV, d2]) rfl ⟨_, _, by rw [hP'.out], by rw [hP'.out]; exact ⟨h6.c.fr hG (fun k hk hm => by have := hn6 k hk; have := List.mem_singleton.1 hm; omega), (hh.fr0 hF7).s, (h6.d).fr hG (fun k hk hm => by have := hb5 k hk; have := List.mem_singleton.1 hm; omega), h6.ok⟩, hF7⟩
end
end Go.Proofs.YtilhbjjjmdnjmaaGreat
