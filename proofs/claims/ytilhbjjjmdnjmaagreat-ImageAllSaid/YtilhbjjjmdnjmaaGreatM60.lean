/-
  The state of law12.ImageAll: the image and the document's one, apart from one another.
-/
import Derived.Test.YtilhbjjjmdnjmaaGreatRiO
import Derived.Test.YtilhbjjjmdnjmaaGreatRiN
namespace Go.Proofs.YtilhbjjjmdnjmaaGreat
open Go.RowKit Go.Maps

theorem LawI.box {w1 w w' : World} {ib : Nat} {q : Pl} {M : Img} {B r : Nat} {L : List Nat} (h : LawI w1 w ib q M B r) (hf : Fr L w w') (hL : ∀ k ∈ L, q.r k = none ∧ w1.heap.size ≤ k) : LawI w1 w' ib q M B r :=
  ⟨⟨h.st.img.fr hf (fun k hk => (hL k hk).1), h.st.new, h.st.fr.trans hf (fun x hx hl => by have := (hL x hx).2; omega)⟩, h.ok, h.hB, h.hr⟩
/-- where the document's rows lie -/
def awayP (q : Pl) (rb : Nat) (k : Nat) : Prop := q.r k = none ∧ k ≠ rb
structure AllI (w1 wr : World) (ib : Nat) (q : Pl) (M : Img) (B r rb : Nat) (vc vs vd : Value) (R : RIm) : Prop where
  L : LawI w1 wr ib q M B r
  box : Blk wr rb [.int .i64 (R.mn : Int), .int .i64 (R.rm : Int), vc, vs, vd] 36
  ri : RiW (awayP q rb) wr vc vs vd R
  rb1 : w1.heap.size ≤ rb
  rbn : q.r rb = none
section
variable {w1 wr w' : World} {ib : Nat} {q q' : Pl} {M M' : Img} {B r rb : Nat} {vc vs vd vc' vs' vd' : Value} {R R' : RIm}
theorem AllI.keep (h : AllI w1 wr ib q M B r rb vc vs vd R) (hf : Fr [] wr w') : AllI w1 w' ib q M B r rb vc vs vd R := ⟨h.L.keep hf, h.box.fr0 hf, h.ri.fr0 hf, h.rb1, h.rbn⟩
/-- a call of the image's: its own blocks turn -/
theorem AllI.step (h : AllI w1 wr ib q M B r rb vc vs vd R) (hI : ImgW w' ib q' M') (hs : Step wr q w' q') (hok : OkI M') (hB : M'.B = B) (hr : M'.n.length = r) : AllI w1 w' ib q' M' B r rb vc vs vd R := by
  have hnew : ∀ k, q.r k = none → k < wr.heap.size → q'.r k = none := fun k hk hl => by
    cases h1 : q'.r k with
    | none => rfl
    | some x =>
      rcases hs.new k (by rw [h1]; rfl) with h2 | h2
      · rw [hk] at h2; cases h2
      · omega
  have hout : ∀ k, q.r k = none → k ∉ own q wr := fun k hk hm => by
    have := (mem_own.1 hm).2
    rw [hk] at this
    cases this
  refine ⟨⟨h.L.st.step hI hs, hok, hB, hr⟩, h.box.fr hs.fr (hout _ h.rbn), ?_, h.rb1, hnew _ h.rbn h.box.lt⟩
  have h2 : RiW (fun k => awayP q rb k ∧ k < wr.heap.size) wr vc vs vd R := h.ri.old
  refine (h2.frS hs.fr (fun k hk hS => hout k hS.1.1 hk)).mono fun k hk => ⟨hnew k hk.1.1 hk.2, hk.1.2⟩
/-- the box has another image of the document's -/
theorem AllI.put (h : AllI w1 wr ib q M B r rb vc vs vd R) (h' : RiW (awayP q rb) w' vc' vs' vd' R') (hf : Fr [] wr w') :
    AllI w1 ((((((w'.setCell ⟨rb, 0, none⟩ (.int .i64 (R'.mn : Int))).setCell ⟨rb, 1, none⟩ (.int .i64 (R'.rm : Int))).setCell ⟨rb, 2, none⟩ vc').setCell ⟨rb, 3, none⟩ vs').setCell ⟨rb, 4, none⟩ vd').alloc (.cells #[.int .i64 (R'.mn : Int), .int .i64 (R'.rm : Int), vc', vs', vd'] 36)) ib q M B r rb vc' vs' vd' R' := by
  have h2 := h.keep hf
  have hB := ((((h2.box.setCell 0 (.int .i64 (R'.mn : Int))).setCell 1 (.int .i64 (R'.rm : Int))).setCell 2 vc').setCell 3 vs').setCell 4 vd'
  have hf : Fr [rb] w' (((((w'.setCell ⟨rb, 0, none⟩ (.int .i64 (R'.mn : Int))).setCell ⟨rb, 1, none⟩ (.int .i64 (R'.rm : Int))).setCell ⟨rb, 2, none⟩ vc').setCell ⟨rb, 3, none⟩ vs').setCell ⟨rb, 4, none⟩ vd') :=
    (((((Fr.refl [rb] w').setCell (p := ⟨rb, 0, none⟩) (.inl (by simp)) _).setCell (p := ⟨rb, 1, none⟩) (.inl (by simp)) _).setCell (p := ⟨rb, 2, none⟩) (.inl (by simp)) _).setCell (p := ⟨rb, 3, none⟩) (.inl (by simp)) _).setCell (p := ⟨rb, 4, none⟩) (.inl (by simp)) _
  have h5 : AllI w1 (((((w'.setCell ⟨rb, 0, none⟩ (.int .i64 (R'.mn : Int))).setCell ⟨rb, 1, none⟩ (.int .i64 (R'.rm : Int))).setCell ⟨rb, 2, none⟩ vc').setCell ⟨rb, 3, none⟩ vs').setCell ⟨rb, 4, none⟩ vd') ib q M B r rb vc' vs' vd' R' :=
    ⟨h2.L.box hf (fun k hk => by rw [List.mem_singleton.1 hk]; exact ⟨h.rbn, h.rb1⟩), hB, h'.frS hf (fun k hk hS => by rw [List.mem_singleton.1 hk] at hS; exact hS.2 rfl), h.rb1, h.rbn⟩
  exact h5.keep ((Fr.refl [] _).alloc _)
end
end Go.Proofs.YtilhbjjjmdnjmaaGreat

namespace Go.Proofs.YtilhbjjjmdnjmaaGreat
open Go.RowKit Go.Maps
attribute [local go_sem] mapAt_alloc mapAt_setCell mapAt_drew mapAt_drewN cells_str store_str eql_str neq_str guard_str len_str

set_option maxRecDepth 100000 in
set_option maxHeartbeats 1600000 in
theorem ImageAll_any (w : World) (a1 a2 a3 : Int) (v : Value) (l : List OpI) (hv : OpsW w w.heap.size v l) (hnm : ∀ o ∈ l, o.nm.length ≤ maxLen) (u : Value) (bel : List By) (hu : SlT w u bel) (huo : okV u) (hul : ∀ s ∈ bel, s.length ≤ maxLen) :
    Calls Tryz.prog 3 #[.agg #[.int .i64 a1, .int .i64 a2, .int .i64 a3], v, u] w fun e w' => e = .returned (.bool true) ∧ Fr [] w w' := by
  obtain ⟨a, cap, rfl, hlc, hcm⟩ := hv.open
  unfold maxLen at hcm
  have hulow : 0 < bel.length → ∀ k, u.ownBlock = some k → k < w.heap.size := fun hp => SlF.lt hu (by
    cases bel with
    | nil => simp at hp
    | cons x l => simp [strC])
  obtain ⟨ua, ucap, rfl, huc, hucm, hucl⟩ := hu.open
  clear hucl
  have hf0 := (Fr.refl [] w).alloc (.cells #[.int .i64 a1, .int .i64 a2, .int .i64 a3] 23)
  have B0 := Blk.new w [.int .i64 a1, .int .i64 a2, .int .i64 a3] 23
  replace hv := hv.fr0 hf0
  replace hu := SlF.fr0 hu hf0
  have c0 := B0.cell
  generalize hw1 : (w.alloc (.cells #[.int .i64 a1, .int .i64 a2, .int .i64 a3] 23)) = w1 at *
  go_enter Tryz.func3, Tryz.ntmps3
  go_wp2_with fail
  try rw [hw1]
  refine (iFewN_calls _ _ _ _ (.slice a l.length cap) l _ hv).mono ?_
  rintro e w2 ⟨b, rfl, hf2, hb40⟩
  have hF2 := hf0.trans0 hf2
  cases b
  case false =>
    clear hb40
    go_wp2_with fail
    refine (iAlive_calls _).mono ?_
    rintro e w9 ⟨rfl, hf9⟩
    go_wp2
    go_ret
    exact ⟨rfl, hF2.trans0 hf9⟩
  have h40 := hb40 rfl
  by_cases h20 : 20 < bel.length
  case pos =>
    go_wp2_with fail
    refine (iAlive_calls _).mono ?_
    rintro e w9 ⟨rfl, hf9⟩
    go_wp2
    go_ret
    exact ⟨rfl, hF2.trans0 hf9⟩
  have h20' : bel.length ≤ 20 := by omega
  clear h20 hb40
  replace B0 := B0.fr0 hf2
  replace c0 := B0.cell
  replace hv := hv.fr0 hf2
  replace hu := SlF.fr0 hu hf2
  have hz2 := hF2.size
  clear hf2
  by_cases hok : okSeat a1 a2 a3
  case neg =>
    go_wp2_with fail
    refine (iNew_no a1 a2 a3 _ hok).mono ?_
    rintro e w3 ⟨rfl, hf3⟩
    have c3 := (B0.fr0 hf3).cell
    clear c0
    go_wp2_with fail
    refine (rNewR_no a1 a2 a3 _ hok).mono ?_
    rintro e w4 ⟨rfl, hf4⟩
    clear c3
    go_wp2_with fail
    refine (iAlive_calls _).mono ?_
    rintro e w9 ⟨rfl, hf9⟩
    go_wp2
    go_ret
    exact ⟨rfl, ((hF2.trans0 (hf3.trans0 hf4)).alloc _).trans0 hf9⟩
  obtain ⟨B, rfl⟩ : ∃ B : Nat, a1 = B := ⟨a1.toNat, by unfold okSeat at hok; omega⟩
  obtain ⟨n, rfl⟩ : ∃ n : Nat, a2 = n := ⟨a2.toNat, by unfold okSeat at hok; omega⟩
  obtain ⟨r, rfl⟩ : ∃ r : Nat, a3 = r := ⟨a3.toNat, by unfold okSeat at hok; omega⟩
  have hB3 : B ≤ 3 ∧ n ≤ 256 ∧ r ≤ 512 := by unfold okSeat at hok; omega
  go_wp2_with fail
  refine (iNew_yes B n r _ hok).mono ?_
  intro e w3 hp
  obtain ⟨ib, p, rfl, hst⟩ := new_St hp
  have hL := LawI.made hok hst
  clear hp hst hok
  replace c0 := (B0.fr0 hL.st.fr).cell
  go_wp2_with fail
  refine (rNewR_yes B n r _ hB3.1 hB3.2.1 hB3.2.2).mono ?_
  rintro e w4 ⟨vc, rfl, hR4, hf4⟩
  have hsim0 : ∃ f, Sim (newI B n r) (newRI B n r) f := ⟨_, new_sim B n r⟩
  have hd0 : (newRI B n r).d.length = 0 := rfl
  generalize newRI B n r = R0 at *
  generalize newI B n r = M0 at *
  have hL5 := (hL.keep hf4).keep ((Fr.refl [] w4).alloc (.cells #[.int .i64 (R0.mn : Int), .int .i64 (R0.rm : Int), vc, .slice none 0 0, .slice none 0 0] 36))
  have B5 := Blk.new w4 [.int .i64 (R0.mn : Int), .int .i64 (R0.rm : Int), vc, .slice none 0 0, .slice none 0 0] 36
  have hA0 : AllI w2 (w4.alloc (.cells #[.int .i64 (R0.mn : Int), .int .i64 (R0.rm : Int), vc, .slice none 0 0, .slice none 0 0] 36)) ib p M0 B r w4.heap.size vc (.slice none 0 0) (.slice none 0 0) R0 := by
    have hz4 := hf4.size
    have hz3 := hL.st.fr.size
    refine ⟨hL5, B5, ?_, by omega, hL.st.img.new hz4⟩
    exact (hR4.old.mono fun k hk => ⟨hL.st.img.new hk.1, by omega⟩).fr0 ((Fr.refl [] w4).alloc _)
  obtain ⟨ac0, cc0, _, _, _, _, rfl, hx1, hx2, _⟩ := hR4.open
  clear hx1 hx2
  generalize hw5 : w4.alloc (.cells #[.int .i64 (R0.mn : Int), .int .i64 (R0.rm : Int), .slice ac0 R0.c.length cc0, .slice none 0 0, .slice none 0 0] 36) = w5 at *
  unfold riV
  have hb5 := fun X (hX : Fr [] w5 X) => (B0.fr0 (hL5.st.fr.trans0 hX)).cell
  have hBk : M0.B = B := hL.hB
  have hq5 := hidIt hw5
  clear hL B5 c0 hR4 hf4 hw5
  go_wp2_with fail
  rw [hq5.out]
  have hdr := (Fr.refl [] w5).drew
  have hA1 := hA0.keep hdr
  have kB := iBits_calls _ hA1.L.st.img
  rw [hBk] at kB
  clear hA0 hL5 hq5
  refine wp_region_G (fun X => Fr [] w5.drew X) [(true, 0), (true, 1), (true, 2), (true, 3), (true, 4), (true, 5), (true, 6), (true, 7), (true, 9), (true, 10), (false, 8), (true, 11), (true, 12)] (by as_aux_lemma => kernel_rfl) (by as_aux_lemma => kernel_rfl) (Fr.refl _ _) ?_
  simp only [inOrder, List.map_cons, List.map_nil, List.getD_cons_zero, List.getD_cons_succ]
  iterate 9
    refine wpG_pure fun K hK => ?_
    go_simp
    refine hK _ ?_
    clear hK K
  refine wpG_val (.int .i64 (B : Int)) (by first | rfl | go_simp) (fun X hX => by have cc := hb5 X (hdr.trans0 hX); go_simp) ?_
  simp only [Act.put, List.setIfInBounds_toArray, List.set_cons_zero, List.set_cons_succ]
  refine wpG_one fun K hK => ?_
  go_simp
  refine (kB).mono ?_
  rintro e w6 ⟨rfl, rfl⟩
  refine hK _ _ (Fr.refl _ _) ?_
  clear hK K
  iterate 2
    refine wpG_pure fun K hK => ?_
    go_simp
    refine hK _ ?_
    clear hK K
  refine wpG_end ?_
  clear kB hb5 hBk hB3
  generalize w5.drew = w6 at *
  generalize w4.heap.size = rb at *
  clear hdr
  go_wp2_with fail
  go_loopw [12, 13, 14, 15, 16, 17, 74] (fun _ _ _ _ _ _ i wr => ∃ (k : Nat) (q : Pl) (M : Img) (R : RIm) (vc vs vd : Value), k ≤ l.length ∧ i = .int .i64 k ∧ AllI w2 wr ib q M B r rb vc vs vd R ∧ (∃ f, Sim M R f) ∧ R.d.length ≤ 256 * k) (fun _ _ _ _ _ _ i _ => l.length - (intOf i).toNat)
  case atStart => exact ⟨0, _, _, _, _, _, _, Nat.zero_le _, rfl, hA1, hsim0, by omega⟩
  clear hA1 hsim0 hd0
  obtain ⟨k, q, M, R, vc, vs, vd, hk, rfl, hA, ⟨f, hsim⟩, hd⟩ := hrel
  obtain ⟨ac, cc, as_, cs, ad, cd, rfl, rfl, rfl, _⟩ := hA.ri.open
  have c0 := hA.box.cell
  by_cases hlt : k < l.length
  case pos =>
    obtain ⟨b, off, vb, rfl, hb, hbn, hbv, d0, d1, d2, d3, d4⟩ := (hv.fr0 hA.L.st.fr).at hlt
    have hon := hnm _ (getD_memO hlt)
    have hu1 := SlF.fr0 hu hA.L.st.fr
    generalize l.getD k zOI = o at *
    have hfo := (Fr.refl [] wr).alloc (.cells #[.int .i64 o.k, .int .i64 o.x, .int .i64 o.lo, vb, strL o.nm] 42)
    have BO := Blk.new wr [.int .i64 o.k, .int .i64 o.x, .int .i64 o.lo, vb, strL o.nm] 42
    have hA2 := hA.keep hfo
    have hbv2 := hbv.fr hfo (fun _ h => by cases h)
    have hu2 := SlF.fr0 hu1 hfo
    have hrbl := hA2.box.lt
    have kD := rDo_calls o vb (.slice ua bel.length ucap) bel _ hA2.ri (fun j hj => ⟨hA2.L.st.img.new hj, by omega⟩) hbv2.sl hon hu2 huo hul (by omega)
    have c2 := hA2.box.cell
    have o2 := BO.cell
    have hs2 := op_sim hsim hA.L.ok o bel
    have hs3 := opR_sim hsim hA.L.ok o
    obtain ⟨vb1, vc1, rfl, _⟩ := hbv.sl.open
    have hBs : riV R (.slice ac R.c.length cc) (.slice as_ R.s.length cs) (.slice ad R.d.length cd) = .agg #[.int .i64 (R.mn : Int), .int .i64 (R.rm : Int), .slice ac R.c.length cc, .slice as_ R.s.length cs, .slice ad R.d.length cd] := rfl
    rw [hBs] at kD
    clear hBs
    have hdl := rdoE_d hA.ri.ok o bel
    have hnn : ∀ j, (q.r j).isSome = true → w.heap.size ≤ j := fun j hj => Nat.le_trans hz2 (hA.L.st.new j hj)
    obtain ⟨ok, ox, olo, ob, onm⟩ := o
    unfold opiV at kD
    have hrl := hA.box.lt
    clear hbv hu1 hfo hA
    go_wp2_with fail
    refine kD.mono ?_
    rintro e w3 ⟨vc3, vs3, vd3, rfl, hR3, hf3⟩
    obtain ⟨ac3, cc3, as3, cs3, ad3, cd3, rfl, rfl, rfl, _⟩ := hR3.open
    have hA4 := hA2.put hR3 hf3
    have hw4 : Fr [rb] w3 ((((((w3.setCell ⟨rb, 0, none⟩ (.int .i64 ((rdoE R ⟨ok, ox, olo, ob, onm⟩ bel).2.mn : Int))).setCell ⟨rb, 1, none⟩ (.int .i64 ((rdoE R ⟨ok, ox, olo, ob, onm⟩ bel).2.rm : Int))).setCell ⟨rb, 2, none⟩ (.slice ac3 (rdoE R ⟨ok, ox, olo, ob, onm⟩ bel).2.c.length cc3)).setCell ⟨rb, 3, none⟩ (.slice as3 (rdoE R ⟨ok, ox, olo, ob, onm⟩ bel).2.s.length cs3)).setCell ⟨rb, 4, none⟩ (.slice ad3 (rdoE R ⟨ok, ox, olo, ob, onm⟩ bel).2.d.length cd3)).alloc (.cells #[.int .i64 ((rdoE R ⟨ok, ox, olo, ob, onm⟩ bel).2.mn : Int), .int .i64 ((rdoE R ⟨ok, ox, olo, ob, onm⟩ bel).2.rm : Int), .slice ac3 (rdoE R ⟨ok, ox, olo, ob, onm⟩ bel).2.c.length cc3, .slice as3 (rdoE R ⟨ok, ox, olo, ob, onm⟩ bel).2.s.length cs3, .slice ad3 (rdoE R ⟨ok, ox, olo, ob, onm⟩ bel).2.d.length cd3] 36)) :=
      ((((((Fr.refl [rb] w3).setCell (p := ⟨rb, 0, none⟩) (.inl (by simp)) _).setCell (p := ⟨rb, 1, none⟩) (.inl (by simp)) _).setCell (p := ⟨rb, 2, none⟩) (.inl (by simp)) _).setCell (p := ⟨rb, 3, none⟩) (.inl (by simp)) _).setCell (p := ⟨rb, 4, none⟩) (.inl (by simp)) _).alloc _
    have hb4 := (hbv2.fr hf3 (fun _ h => by cases h)).fr hw4 (fun j hj => by
      have h1 := hA2.rb1
      rw [List.mem_singleton.1 hj]
      omega)
    have hu4 := SlF.frE (SlF.fr0 hu2 hf3) hw4 (fun hp j hj hm => by
      have h1 := hA2.rb1
      have h2 := hulow hp j hj
      rw [List.mem_singleton.1 hm] at h2
      omega)
    have BO4 := (BO.fr0 hf3).fr hw4 (fun hm => by
      have h1 := List.mem_singleton.1 hm
      omega)
    have o4 := BO4.cell
    have c4 := hA4.box.cell
    have r3 := (hA2.box.fr0 hf3).cell
    have r3f := (hA2.box.fr0 hf3).frozen
    have r3l := (hA2.box.fr0 hf3).lt
    unfold riV
    have kD2 := iDoes_calls w.heap.size ⟨ok, ox, olo, ob, onm⟩ (.slice vb1 ob.length vc1) (.slice ua bel.length ucap) bel _ hA4.L.st.img hA4.L.ok hnn hb4 hu4 hul hulow
    unfold opiV at kD2
    obtain ⟨hc, f5, hsim5⟩ := hs2
    have hop := op_ok hA4.L.ok ⟨ok, ox, olo, ob, onm⟩ bel
    have hoB := (op_B hA4.L.ok ⟨ok, ox, olo, ob, onm⟩ bel).trans hA4.L.hB
    have hoN := (op_n hA4.L.ok ⟨ok, ox, olo, ob, onm⟩ bel).trans hA4.L.hr
    clear kD hw4 hb4 hu4 BO hbv2 hu2 c0 c2 hA2 hf3 BO4 hR3 hsim
    generalize rdoR R ⟨ok, ox, olo, ob, onm⟩ = txt at *
    generalize rdoE R ⟨ok, ox, olo, ob, onm⟩ bel = rr at *
    obtain ⟨code, R5⟩ := rr
    simp only at hc hsim5 hdl hA4 kD2 o4 c4 r3 r3f r3l ⊢
    replace kD2 := hidIt kD2
    replace hA4 := hidIt hA4
    replace hop := hidIt hop
    replace hoB := hidIt hoB
    replace hoN := hidIt hoN
    replace hsim5 := hidIt hsim5
    replace hs3 := hidIt hs3
    replace hc := hidIt hc
    replace hdl := hidIt hdl
    replace hd := hidIt hd
    replace hnn := hidIt hnn
    clear d0 d1 d2 d3 d4 hb c4
    go_wp2_with fail
    refine kD2.out.mono ?_
    rintro e w5 ⟨q5, rfl, hI5, hs5⟩
    replace hA4 := hA4.out
    replace hsim5 := hsim5.out
    replace hop := hop.out
    replace hoB := hoB.out
    replace hoN := hoN.out
    replace hs3 := hs3.out
    replace hc := hc.out
    replace hdl := hdl.out
    replace hd := hd.out
    have hA5 := hA4.step hI5 hs5 hop hoB hoN
    rw [← hs3, ← hc]
    have kSt := rStands_calls _ hA5.L.st.img hA5.L.ok hA5.ri hsim5
    have c5 := hA5.box.cell
    unfold riV at kSt
    clear kD2 hA4 hI5 hs5 o4 r3 r3f r3l hop hoB hoN hs3 hc hnn
    replace hsim5 := hidIt hsim5
    replace hdl := hidIt hdl
    replace hd := hidIt hd
    go_wp2_with fail
    refine kSt.mono ?_
    rintro e w6 ⟨rfl, hf6⟩
    have hA6 := hA5.keep hf6
    clear kSt c5 hA5
    go_wp2
    go_roundw
    case rel => exact ⟨k + 1, q5, _, R5, _, _, _, by omega, by go_num, hA6, ⟨f5, hsim5.out⟩, by have := hdl.out; have := hd.out; omega⟩
    case measure => simp [intOf]; omega
  have hke : k = l.length := by omega
  subst hke
  clear hlt hk hlc hv c0
  go_wp2_with fail
  refine (iAlive_calls _).mono ?_
  rintro e w8 ⟨rfl, hf8⟩
  have hL8 := hA.L.keep hf8
  clear hA
  go_wp2_with fail
  refine (iKind_calls (-1) _ hL8.st.img).mono ?_
  rintro e w9 ⟨rfl, hf9⟩
  have hL9 := hL8.keep hf9
  rw [tget_out (.inl (by omega)), show zS.1 = 0 from rfl]
  go_wp2_with fail
  refine (iSize_calls _ hL9.st.img).mono ?_
  rintro e w10 ⟨rfl, rfl⟩
  go_wp2_with fail
  refine (iKind_calls _ _ hL9.st.img).mono ?_
  rintro e w11 ⟨rfl, hf11⟩
  rw [tget_out (.inr (Int.le_refl _)), show zS.1 = 0 from rfl]
  go_wp2
  go_ret
  exact ⟨rfl, hF2.trans0 (hL9.keep hf11).st.fr⟩
end Go.Proofs.YtilhbjjjmdnjmaaGreat
