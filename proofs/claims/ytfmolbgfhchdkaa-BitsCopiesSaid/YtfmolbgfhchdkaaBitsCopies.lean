/-
  law10.BitsCopies: the walk.
-/
import Derived.Test.YtfmolbgfhchdkaaBitsAllClear
import Derived.Test.YtfmolbgfhchdkaaBitRR
import Derived.Test.YtfmolbgfhchdkaaBitO
import Derived.Test.YtfmolbgfhchdkaaBitQ
import Derived.Test.YtfmolbgfhchdkaaBitQ2
import Derived.Test.YtfmolbgfhchdkaaExtEq
import Derived.Test.YtfmolbgfhchdkaaEqRows
import Derived.Test.YtfmolbgfhchdkaaHeld
namespace Go.Proofs.Ytfmolbgfhchdkaa
open Go.RowKit Go.Maps

set_option maxRecDepth 100000 in
set_option maxHeartbeats 1600000 in
theorem BitsCopies_no (g : Int) (v u : Value) (l : List Op3) (w : World) (hv : SlP w v l) (h : okMade 40 g l = false) : Calls Try.prog 7 #[.int .i64 g, v, u] w fun e w' => e = .returned (.bool true) ∧ Fr [] w w' := by
  go_enter Try.func7, Try.ntmps7
  go_wp2_with fail
  refine (made_no 40 g v l _ hv h).mono ?_
  rintro e w1 ⟨x, y, a, n, c, rfl, hf⟩
  go_wp2_with fail
  refine (alive_calls _).mono ?_
  rintro e w2 ⟨rfl, hf2⟩
  go_wp2
  go_ret
  exact ⟨rfl, (hf.alloc _).trans0 hf2⟩
set_option maxRecDepth 100000 in
set_option maxHeartbeats 1600000 in
theorem BitsCopies_few (g : Int) (v u : Value) (l m : List Op3) (w : World) (hv : SlP w v l) (hu : SlP w u m) (hgood : ∀ o ∈ l, goodOp o) (h : okMade 40 g l = true) (hm : fewS 40 m = false) : Calls Try.prog 7 #[.int .i64 g, v, u] w fun e w' => e = .returned (.bool true) ∧ Fr [] w w' := by
  have h1 : okNew 40 g = true := by simp [okMade] at h; exact h.1
  have h2 : fewS 40 l = true := by simp [okMade] at h; exact h.2
  have key := made_yes 40 g v l w h1 hv h2 hgood
  unfold madePost at key
  go_enter Try.func7, Try.ntmps7
  go_wp2_with fail
  refine key.mono ?_
  rintro e w1 ⟨tb, mb, rv, rfl, hW, hR, ht, hmb, hf⟩
  obtain ⟨x, y, a, n, c, rfl⟩ := hR.some
  have hfa := (Fr.refl [] w1).alloc (.cells #[.int .i64 x, .int .i64 y, .slice a n c] 28)
  replace hf := hf.trans0 hfa
  clear hfa hR key hW
  go_wp2_with fail
  refine (few_calls 40 u m _ (SlF.fr0 hu hf)).mono ?_
  rintro e w2 ⟨rfl, hf2⟩
  rw [hm]
  replace hf := hf.trans0 hf2
  go_wp2_with fail
  refine (alive_calls _).mono ?_
  rintro e w3 ⟨rfl, hf3⟩
  go_wp2
  go_ret
  exact ⟨rfl, hf.trans0 hf3⟩
set_option maxRecDepth 100000 in
set_option maxHeartbeats 4000000 in
theorem BitsCopies_yes (g : Int) (v u : Value) (l m : List Op3) (w : World) (hv : SlP w v l) (hu : SlP w u m) (hgood : ∀ o ∈ l, goodOp o) (hgoodm : ∀ o ∈ m, goodOp o) (h : okMade 40 g l = true) (hm : fewS 40 m = true) : Calls Try.prog 7 #[.int .i64 g, v, u] w fun e w' => e = .returned (.bool true) ∧ Fr [] w w' := by
  have h1 : okNew 40 g = true := by simp [okMade] at h; exact h.1
  have h2 : fewS 40 l = true := by simp [okMade] at h; exact h.2
  have hp : pow2 g = true := by simp [okNew] at h1; exact h1.2
  have hg := pow2_le hp
  obtain ⟨G, rfl⟩ := Int.eq_ofNat_of_zero_le (by omega : 0 ≤ g)
  have key := made_yes 40 (G : Int) v l w h1 hv h2 hgood
  unfold madePost at key
  simp only [Int.toNat_natCast] at key
  have hm60 := fewS_len hm
  generalize (stOf 40 (G : Int) l).1 = S at *
  generalize (stOf 40 (G : Int) l).2 = L at *
  go_enter Try.func7, Try.ntmps7
  go_wp2_with fail
  refine key.mono ?_
  rintro e w1 ⟨tb, mb, rv, rfl, hW, hR, ht, hmb, hf⟩
  obtain ⟨x, y, a, n, c, rfl⟩ := hR.some
  have hfa := (Fr.refl [] w1).alloc (.cells #[.int .i64 x, .int .i64 y, .slice a n c] 28)
  have B8 := Blk.new w1 [.int .i64 x, .int .i64 y, .slice a n c] 28
  replace hf := hf.trans0 hfa
  replace hW := hW.fr0 hfa
  replace hR := hR.fr0 hfa
  clear hfa key
  go_wp2_with fail
  refine (few_calls 40 u m _ (SlF.fr0 hu hf)).mono ?_
  rintro e w2 ⟨rfl, hf2⟩
  rw [hm]
  replace hf := hf.trans0 hf2
  replace hW := hW.fr0 hf2
  replace hR := hR.fr0 hf2
  replace B8 := B8.fr0 hf2
  clear hf2
  go_wp2_with fail
  refine (Copy_calls tb mb S G L _ hW).mono ?_
  rintro e w3 ⟨tc, mc, rfl, htc, hmc, hC, hf3⟩
  have hsep : (tb < tc ∧ mb < tc ∧ tb < mc ∧ mb < mc) ∧ (w.heap.size ≤ tc ∧ w.heap.size ≤ mc) ∧ (w1.heap.size < tc ∧ w1.heap.size < mc) := by
    have q1 := hW.lt
    have q2 := hf.size
    have q3 := B8.lt
    omega
  replace hf := hf.trans0 hf3
  replace hW := hW.fr0 hf3
  replace hR := hR.fr0 hf3
  replace B8 := B8.fr0 hf3
  clear hf3
  go_wp2_with fail
  refine (Same_like tc mc S G tb mb L L _ hC hW).mono ?_
  rintro e w4 ⟨rfl, hf4⟩
  rw [show decide (L = L) = true by simp]
  replace hf := hf.trans0 hf4
  replace hW := hW.fr0 hf4
  replace hC := hC.fr0 hf4
  replace hR := hR.fr0 hf4
  replace B8 := B8.fr0 hf4
  clear hf4
  have b8 := B8.cell
  have l8 := B8.lt
  obtain ⟨am, cm, rfl, _, _, _⟩ := hu.open
  have hfb := (Fr.refl [] w4).alloc (.cells #[.int .i64 x, .int .i64 y, .slice a n c] 28)
  have B11 := Blk.new w4 [.int .i64 x, .int .i64 y, .slice a n c] 28
  obtain ⟨uu, hrv, hsl, hok⟩ := hR.row
  have hRS := hR.size
  have hRg := hR.grain
  have hRl := hR.len
  unfold rb at hrv
  simp at hrv
  obtain ⟨rfl, rfl, hrv3⟩ := hrv
  subst hrv3
  have hR0 : RefB w4 (rb S G (.slice a n c)) S G L := ⟨⟨_, rfl, hsl, hok⟩, hRS, hRg, hRl⟩
  have hs4 := hf.size
  have hC4 := hC.lt
  have hW4 := hW.lt
  have Hlen : ∀ k, Hid ((runS G (S, L) (m.take k)).1 ≤ 4096 ∧ (runS G (S, L) (m.take k)).2.length = gran (runS G (S, L) (m.take k)).1 G) := fun k => hidIt (runS_len (m.take k) (S, L) hRS hRl)
  clear hRl hR
  go_wp2_with fail
  go_loopw [45] (fun i wr => ∃ (k S1 : Nat) (l1 : List Bool) (u1 : Value), k ≤ m.length ∧ i = .int .i64 k ∧ Hid ((S1, l1) = runS G (S, L) (m.take k)) ∧ BitW wr tc mc S1 G l1 ∧ BitW wr tb mb S G L ∧ RefB wr (rb S1 G u1) S1 G l1 ∧ RefB wr (rb S G (.slice a n c)) S G L ∧
    Blk wr w4.heap.size [.int .i64 S1, .int .i64 G, u1] 28 ∧ Blk wr w1.heap.size [.int .i64 S, .int .i64 G, .slice a n c] 28 ∧ Fr [] w wr) (fun i _ => m.length - (intOf i).toNat)
  case atStart => exact ⟨0, S, L, _, Nat.zero_le _, rfl, hidIt rfl, hC.fr0 hfb, hW.fr0 hfb, hR0.fr0 hfb, hR0.fr0 hfb, B11, B8.fr0 hfb, hf.trans0 hfb⟩
  case round =>
    clear hC hW hR0 B11 B8 hf hfb b8 l8
    obtain ⟨k, S1, l1, u1, hk, rfl, Hst, hC, hW, hR, hR0, B11, B8, hF⟩ := hrel
    obtain ⟨x1, y1, a1, n1, c1, he1⟩ := hR.some
    have hu1 : u1 = .slice a1 n1 c1 := by
      have := (Value.agg.inj he1)
      simp at this
      exact this.2.2
    subst hu1
    have hsz := hF.size
    have l11 := B11.lt
    have l8 := B8.lt
    have hClt := hC.lt
    have hWlt := hW.lt
    by_cases hlt : k < m.length
    · obtain ⟨b, off, rfl, hb, c0, c1', c2⟩ := SlP.at (hu.fr0 hF) hlt
      have hge := hgoodm _ (List.mem_of_getElem? (getD_some z3 hlt))
      have Hnx : Hid (runS G (S, L) (m.take (k + 1)) = (doS G (S1, l1) (m.getD k z3)).1) := hidIt (by rw [runS_succ _ _ _ _ hlt, ← Hst.out])
      generalize m.getD k z3 = o at *
      obtain ⟨p, q, r⟩ := o
      simp only at c0 c1' c2
      have B14 := Blk.new wr [.int .i64 p, .int .i64 q, .int .i64 r] 24
      have hfa := (Fr.refl [] wr).alloc (.cells #[.int .i64 p, .int .i64 q, .int .i64 r] 24)
      have keyB := does_calls tc mc S1 G l1 p q r _ (hC.fr0 hfa) hge
      have keyR := fun W h => rDo_calls S1 G (.slice a1 n1 c1) l1 p q r W h hge
      unfold rb at keyR
      generalize doS G (S1, l1) (p, q, r) = d at keyB keyR Hnx
      have hRa := hR.fr0 hfa
      have hR0a := hR0.fr0 hfa
      have hCa := hC.fr0 hfa
      have hWa := hW.fr0 hfa
      have B11a := B11.fr0 hfa
      have B8a := B8.fr0 hfa
      have hFa := hF.trans0 hfa
      go_wp2_with fail
      refine keyB.mono ?_
      rintro e w5 ⟨rfl, hC5, hf5⟩
      have B14b := B14.fr hf5 (by simp; omega)
      have B11b := B11a.fr hf5 (by simp; omega)
      have B8b := B8a.fr hf5 (by simp; omega)
      have hW5 := hWa.fr hf5 (by simp; omega) (by simp; omega)
      have hR5 := hRa.frT hCa hf5
      have hR05 := hR0a.frT hCa hf5
      have hF5 : Fr [] w w5 := hFa.trans hf5 (fun x hx hl => by simp at hx; omega)
      have b14 := B14b.cell
      have b11 := B11b.cell
      have l14 := B14b.lt
      have l11b := B11b.lt
      clear keyB hfa hW hC hR hR0 B11 B8 hWa hCa hRa hR0a B11a B8a c0 c1' c2 hF hFa
      unfold rb at hR5
      go_wp2_with fail
      refine (keyR _ hR5).mono ?_
      rintro e w6 ⟨u5, rfl, hR6, hf6⟩
      obtain ⟨x5, y5, a5, n5, c5, he5⟩ := hR6.some
      have hu5 : u5 = .slice a5 n5 c5 := by
        have := (Value.agg.inj he5)
        simp at this
        exact this.2.2
      subst hu5
      have B11c := B11b.fr0 hf6
      have B8c := B8b.fr0 hf6
      have hW6 := hW5.fr0 hf6
      have hC6 := hC5.fr0 hf6
      have hR06 := hR05.fr0 hf6
      have hF6 := hF5.trans0 hf6
      have b11 := B11c.cell
      have f11 := B11c.frozen
      have l11c := B11c.lt
      clear keyR hf6 hf5 hF5 hW5 hC5 hR5 hR05 B11b B8b B14 B14b b14 l14
      go_wp2
      go_roundw
      case rel =>
        have hfs := Fr.set3 w6 w4.heap.size (.int .i64 d.1.1) (.int .i64 G) (.slice a5 n5 c5)
        refine ⟨k + 1, d.1.1, d.1.2, .slice a5 n5 c5, by omega, by go_num, hidIt (by rw [Hnx.out]), ?_, ?_, ?_, ?_, ?_, ?_, ?_⟩
        · exact ((hC6.fr hfs (by simp; omega) (by simp; omega)).fr0 ((Fr.refl _ _).alloc _))
        · exact ((hW6.fr hfs (by simp; omega) (by simp; omega)).fr0 ((Fr.refl _ _).alloc _))
        · exact RefB.fr0 (RefB.keep hR6 B11c noB hfs) ((Fr.refl _ _).alloc _)
        · exact RefB.fr0 (RefB.keep hR06 B11c noB hfs) ((Fr.refl _ _).alloc _)
        · exact (((B11c.setCell 0 _).setCell 1 _).setCell 2 _).alloc _
        · exact (B8c.fr hfs (by simp; omega)).alloc _
        · exact ((hF6.trans1 hfs (by omega))).alloc _
      case measure => simp [intOf]; omega
    · have hke : k = m.length := by omega
      subst hke
      have hS1 := hR.size
      have hgN : 0 < G ∧ G ≤ 64 := by omega
      have hl1 := hidIt hR.len
      have hl0 := hidIt hR0.len
      have hFd : Fr [] wr wr.drew := (Fr.refl _ _).drew
      have B11d := B11.drew
      have B8d := B8.drew
      have hRd := hR.fr0 hFd
      have hR0d := hR0.fr0 hFd
      obtain ⟨uu1, hu1, hsl1, hok1⟩ := hRd.row
      obtain ⟨uu0, hu0, hsl0, hok0⟩ := hR0d.row
      unfold rb at hu1 hu0
      simp at hu1 hu0
      subst hu1
      subst hu0
      clear Hst Hlen hR hR0 hRd hR0d hok1 hok0 he1
      by_cases hSS : S1 = S
      · subst hSS
        have Hres : Hid (decide (ofE (kindsB S1 G l1 S1) = ofE (kindsB S1 G L S1)) = decide (l1 = L)) := hidIt (by
          have := rows_same (by omega : 0 < G) hl1.out hl0.out
          by_cases h : l1 = L
          · simp [h]
          · have h2 : ¬ ofE (kindsB S1 G l1 S1) = ofE (kindsB S1 G L S1) := fun h3 => h (this.1 h3)
            simp [h, h2])
        go_wp2_with fail
        refine wp_region_F [(true, 0), (true, 1), (true, 2), (true, 3), (true, 4), (true, 5), (true, 6), (true, 8), (false, 7), (false, 9), (false, 10), (true, 11), (true, 12)] follows (by as_aux_lemma => kernel_rfl) ?_
        simp only [inOrder, List.map_cons, List.map_nil, List.getD_cons_zero, List.getD_cons_succ]
        iterate 1
          refine wpF_pure fun K hK => ?_
          go_simp
          refine hK _ ?_
          clear hK K
        refine wpF_val (.int .i64 S1) rfl (fun W hW => by have cc := (B11d.fr0 hW).cell; go_simp) ?_
        simp only [Act.put, List.setIfInBounds_toArray, List.set_cons_zero, List.set_cons_succ]
        iterate 1
          refine wpF_pure fun K hK => ?_
          go_simp
          refine hK _ ?_
          clear hK K
        refine wpF_val (.int .i64 S1) rfl (fun W hW => by have cc := (B8d.fr0 hW).cell; go_simp) ?_
        simp only [Act.put, List.setIfInBounds_toArray, List.set_cons_zero, List.set_cons_succ]
        iterate 2
          refine wpF_pure fun K hK => ?_
          go_simp
          refine hK _ ?_
          clear hK K
        refine wpF_val (.agg #[.int .i64 S1, .int .i64 G, .slice a1 n1 c1]) rfl (fun W hW => by have cc := (B11d.fr0 hW).cell; go_simp) ?_
        simp only [Act.put, List.setIfInBounds_toArray, List.set_cons_zero, List.set_cons_succ]
        refine wpF_val (.agg #[.int .i64 S1, .int .i64 G, .slice a n c]) rfl (fun W hW => by have cc := (B8d.fr0 hW).cell; go_simp) ?_
        simp only [Act.put, List.setIfInBounds_toArray, List.set_cons_zero, List.set_cons_succ]
        refine wpF_one fun K hK => ?_
        go_simp
        refine (rRow_calls S1 G _ l1 _ hsl1 hS1 hgN hl1.out).mono ?_
        rintro e wa ⟨va, rfl, hsa, hfa⟩
        refine hK _ _ hfa ?_
        clear hK K
        refine wpF_one fun K hK => ?_
        go_simp
        refine (rRow_calls S1 G _ L _ (hsl0.fr0 hfa) hS1 hgN hl0.out).mono ?_
        rintro e wb ⟨vb, rfl, hsb, hfb⟩
        refine hK _ _ (hfa.trans0 hfb) ?_
        clear hK K
        refine wpF_one fun K hK => ?_
        go_simp
        refine (SameExt_calls va vb _ _ _ (SlF.fr0 hsa hfb) hsb).mono ?_
        rintro e wc ⟨rfl, hfc⟩
        refine hK _ _ ((hfa.trans0 hfb).trans0 hfc) ?_
        clear hK K
        iterate 2
          refine wpF_pure fun K hK => ?_
          go_simp
          refine hK _ ?_
          clear hK K
        refine wpF_end ?_
        rw [Hres.out]
        generalize hq : decide (l1 = L) = q at *
        clear Hres
        have hF1 := (hfa.trans0 hfb).trans0 hfc
        have hFe : Fr [] wr wc := hFd.trans0 hF1
        have hWe := hW.fr0 hFe
        have hCe := hC.fr0 hFe
        have B8e := (B8.fr0 hFe).drew
        have hsl0e := SlF.fr0 hsl0 (hF1.trans0 (Fr.refl _ _).drew)
        have hWf := hWe.fr0 (Fr.refl _ _).drew
        have hCf := hCe.fr0 (Fr.refl _ _).drew
        have hFz := hF.trans0 (hFe.drew)
        clear hsa hsb hsl1 hW hC B11 B8 B11d B8d hFd hfa hfb hfc hF hFe hWe hCe hsl0 hF1
        go_wp2_with fail
        refine wp_region_F [(false, 0), (true, 1), (true, 2), (true, 4), (false, 3), (false, 5), (false, 6), (true, 7), (true, 8), (true, 9), (true, 10), (true, 12), (false, 11), (true, 13), (true, 14), (true, 15), (true, 16), (false, 17), (true, 18), (true, 19), (true, 20)] follows (by as_aux_lemma => kernel_rfl) ?_
        simp only [inOrder, List.map_cons, List.map_nil, List.getD_cons_zero, List.getD_cons_succ]
        refine wpF_one fun K hK => ?_
        go_simp
        refine (alive_calls _).mono ?_
        rintro e x0 ⟨rfl, g0⟩
        refine hK _ _ g0 ?_
        clear hK K
        iterate 2
          refine wpF_pure fun K hK => ?_
          go_simp
          refine hK _ ?_
          clear hK K
        refine wpF_val (.agg #[.int .i64 S1, .int .i64 G, .slice a n c]) rfl (fun W hW => by have cc := (B8e.fr0 hW).cell; go_simp) ?_
        simp only [Act.put, List.setIfInBounds_toArray, List.set_cons_zero, List.set_cons_succ]
        refine wpF_one fun K hK => ?_
        go_simp
        refine (Row_calls tb mb S1 G L _ (hWf.fr0 g0)).mono ?_
        rintro e x1 ⟨v1, rfl, s1, g1⟩
        refine hK _ _ (g0.trans0 g1) ?_
        clear hK K
        refine wpF_one fun K hK => ?_
        go_simp
        refine (rRow_calls S1 G _ L _ (SlF.fr0 hsl0e (g0.trans0 g1)) hS1 hgN hl0.out).mono ?_
        rintro e x2 ⟨v2, rfl, s2, g2⟩
        refine hK _ _ ((g0.trans0 g1).trans0 g2) ?_
        clear hK K
        refine wpF_one fun K hK => ?_
        go_simp
        refine (SameExt_calls v1 v2 _ _ _ (SlF.fr0 s1 g2) s2).mono ?_
        rintro e x3 ⟨rfl, g3⟩
        refine hK _ _ (((g0.trans0 g1).trans0 g2).trans0 g3) ?_
        clear hK K
        rw [show decide (ofE (kindsB S1 G L S1) = ofE (kindsB S1 G L S1)) = true by simp]
        have gg := ((g0.trans0 g1).trans0 g2).trans0 g3
        iterate 5
          refine wpF_pure fun K hK => ?_
          go_simp
          refine hK _ ?_
          clear hK K
        refine wpF_one fun K hK => ?_
        go_simp
        refine (Same_like tc mc S1 G tb mb l1 L _ (hCf.fr0 gg) (hWf.fr0 gg)).mono ?_
        rintro e x4 ⟨rfl, g4⟩
        refine hK _ _ (gg.trans0 g4) ?_
        clear hK K
        rw [hq]
        have gg4 := gg.trans0 g4
        iterate 4
          refine wpF_pure fun K hK => ?_
          go_simp
          refine hK _ ?_
          clear hK K
        refine wpF_one fun K hK => ?_
        go_simp
        refine (Same_nil tb mb S1 G L _ (hWf.fr0 gg4)).mono ?_
        rintro e x5 ⟨rfl, g5⟩
        refine hK _ _ (gg4.trans0 g5) ?_
        clear hK K
        iterate 3
          refine wpF_pure fun K hK => ?_
          go_simp
          refine hK _ ?_
          clear hK K
        refine wpF_end ?_
        go_wp2
        go_ret
        exact ⟨rfl, hFz.trans0 (gg4.trans0 g5)⟩
      · have hbq : ((S1 : Int) == (S : Int)) = false := by simp; omega
        go_wp2_with fail
        refine wp_region_F [(true, 0), (true, 1), (true, 2), (true, 3), (true, 4), (true, 5), (true, 6), (true, 8), (false, 7), (false, 9), (false, 10), (true, 11), (true, 12)] follows (by as_aux_lemma => kernel_rfl) ?_
        simp only [inOrder, List.map_cons, List.map_nil, List.getD_cons_zero, List.getD_cons_succ]
        iterate 1
          refine wpF_pure fun K hK => ?_
          go_simp
          refine hK _ ?_
          clear hK K
        refine wpF_val (.int .i64 S1) rfl (fun W hW => by have cc := (B11d.fr0 hW).cell; go_simp) ?_
        simp only [Act.put, List.setIfInBounds_toArray, List.set_cons_zero, List.set_cons_succ]
        iterate 1
          refine wpF_pure fun K hK => ?_
          go_simp
          refine hK _ ?_
          clear hK K
        refine wpF_val (.int .i64 S) rfl (fun W hW => by have cc := (B8d.fr0 hW).cell; go_simp) ?_
        simp only [Act.put, List.setIfInBounds_toArray, List.set_cons_zero, List.set_cons_succ]
        iterate 4
          refine wpF_pure fun K hK => ?_
          go_simp
          refine hK _ ?_
          clear hK K
        iterate 3
          refine wpF_one fun K hK => ?_
          go_simp
          clear hK K
        iterate 2
          refine wpF_pure fun K hK => ?_
          go_simp
          refine hK _ ?_
          clear hK K
        refine wpF_end ?_
        have hWe := hW.fr0 hFd
        have hCe := hC.fr0 hFd
        have B8e := B8d.drew
        have hsl0e := SlF.fr0 hsl0 (Fr.refl _ _).drew
        have hWf := hWe.fr0 (Fr.refl _ _).drew
        have hCf := hCe.fr0 (Fr.refl _ _).drew
        have hFz := hF.trans0 (hFd.drew)
        clear hsl1 hW hC B11 B8 B11d B8d hFd hF hWe hCe hsl0
        go_wp2_with fail
        refine wp_region_F [(false, 0), (true, 1), (true, 2), (true, 4), (false, 3), (false, 5), (false, 6), (true, 7), (true, 8), (true, 9), (true, 10), (true, 12), (false, 11), (true, 13), (true, 14), (true, 15), (true, 16), (false, 17), (true, 18), (true, 19), (true, 20)] follows (by as_aux_lemma => kernel_rfl) ?_
        simp only [inOrder, List.map_cons, List.map_nil, List.getD_cons_zero, List.getD_cons_succ]
        refine wpF_one fun K hK => ?_
        go_simp
        refine (alive_calls _).mono ?_
        rintro e x0 ⟨rfl, g0⟩
        refine hK _ _ g0 ?_
        clear hK K
        iterate 2
          refine wpF_pure fun K hK => ?_
          go_simp
          refine hK _ ?_
          clear hK K
        refine wpF_val (.agg #[.int .i64 S, .int .i64 G, .slice a n c]) rfl (fun W hW => by have cc := (B8e.fr0 hW).cell; go_simp) ?_
        simp only [Act.put, List.setIfInBounds_toArray, List.set_cons_zero, List.set_cons_succ]
        refine wpF_one fun K hK => ?_
        go_simp
        refine (Row_calls tb mb S G L _ (hWf.fr0 g0)).mono ?_
        rintro e x1 ⟨v1, rfl, s1, g1⟩
        refine hK _ _ (g0.trans0 g1) ?_
        clear hK K
        refine wpF_one fun K hK => ?_
        go_simp
        refine (rRow_calls S G _ L _ (SlF.fr0 hsl0e (g0.trans0 g1)) hWf.size hgN hl0.out).mono ?_
        rintro e x2 ⟨v2, rfl, s2, g2⟩
        refine hK _ _ ((g0.trans0 g1).trans0 g2) ?_
        clear hK K
        refine wpF_one fun K hK => ?_
        go_simp
        refine (SameExt_calls v1 v2 _ _ _ (SlF.fr0 s1 g2) s2).mono ?_
        rintro e x3 ⟨rfl, g3⟩
        refine hK _ _ (((g0.trans0 g1).trans0 g2).trans0 g3) ?_
        clear hK K
        rw [show decide (ofE (kindsB S G L S) = ofE (kindsB S G L S)) = true by simp]
        have gg := ((g0.trans0 g1).trans0 g2).trans0 g3
        iterate 5
          refine wpF_pure fun K hK => ?_
          go_simp
          refine hK _ ?_
          clear hK K
        refine wpF_one fun K hK => ?_
        go_simp
        refine (Same_sizes tc mc S1 G tb mb S l1 L _ (hCf.fr0 gg) (hWf.fr0 gg) hSS).mono ?_
        rintro e x4 ⟨rfl, g4⟩
        refine hK _ _ (gg.trans0 g4) ?_
        clear hK K
        have gg4 := gg.trans0 g4
        iterate 4
          refine wpF_pure fun K hK => ?_
          go_simp
          refine hK _ ?_
          clear hK K
        refine wpF_one fun K hK => ?_
        go_simp
        refine (Same_nil tb mb S G L _ (hWf.fr0 gg4)).mono ?_
        rintro e x5 ⟨rfl, g5⟩
        refine hK _ _ (gg4.trans0 g5) ?_
        clear hK K
        iterate 3
          refine wpF_pure fun K hK => ?_
          go_simp
          refine hK _ ?_
          clear hK K
        refine wpF_end ?_
        go_wp2
        go_ret
        exact ⟨rfl, hFz.trans0 (gg4.trans0 g5)⟩
theorem BitsCopies_any (w : World) (g : Int) (_ : -9223372036854775808 ≤ g ∧ g ≤ 9223372036854775807) (v : Value) (l : List Op3) (hv : SlP w v l) (hw : ∀ o ∈ l, wf3 o) (u : Value) (m : List Op3) (hu : SlP w u m) (hwm : ∀ o ∈ m, wf3 o) :
    Calls Try.prog 7 #[.int .i64 g, v, u] w fun e w' => e = .returned (.bool true) ∧ Fr [] w w' := by
  by_cases h : okMade 40 g l = true
  · by_cases hm : fewS 40 m = true
    · exact BitsCopies_yes g v u l m w hv hu (good_of hw) (good_of hwm) h hm
    · exact BitsCopies_few g v u l m w hv hu (good_of hw) h (by simpa using hm)
  · exact BitsCopies_no g v u l w hv (by simpa using h)
end Go.Proofs.Ytfmolbgfhchdkaa
