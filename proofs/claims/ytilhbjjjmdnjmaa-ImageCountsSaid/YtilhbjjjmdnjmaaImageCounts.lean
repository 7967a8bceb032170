/-
  law12.ImageCounts: the walk.
-/
import Derived.Test.YtilhbjjjmdnjmaaM37
import Derived.Test.YtilhbjjjmdnjmaaM44
namespace Go.Proofs.Ytilhbjjjmdnjmaa
open Go.RowKit Go.Maps
attribute [local go_sem] mapAt_alloc mapAt_setCell mapAt_drew mapAt_drewN cells_str store_str eql_str neq_str guard_str len_str
set_option maxRecDepth 100000 in
set_option maxHeartbeats 3200000 in
theorem ImageCounts_any (w : World) (a1 a2 a3 : Int) (v : Value) (l : List OpI) (hv : OpsW w w.heap.size v l) :
    Calls Try.prog 8 #[.agg #[.int .i64 a1, .int .i64 a2, .int .i64 a3], v] w fun e w' => e = .returned (.bool true) ∧ Fr [] w w' := by
  obtain ⟨a, cap, rfl, hlc, hcm⟩ := hv.open
  unfold maxLen at hcm
  have hf0 := (Fr.refl [] w).alloc (.cells #[.int .i64 a1, .int .i64 a2, .int .i64 a3] 23)
  have B0 := Blk.new w [.int .i64 a1, .int .i64 a2, .int .i64 a3] 23
  have hz := hf0.size
  replace hv := hv.fr0 hf0
  have c0 := B0.cell
  by_cases hok : okSeat a1 a2 a3
  case neg =>
    go_enter Try.func8, Try.ntmps8
    go_wp2_with fail
    refine (iNew_no a1 a2 a3 _ hok).mono ?_
    rintro e w1 ⟨rfl, hf1⟩
    go_wp2_with fail
    refine (iAlive_calls _).mono ?_
    rintro e w9 ⟨rfl, hf9⟩
    go_wp2
    go_ret
    exact ⟨rfl, (hf0.trans0 hf1).trans0 hf9⟩
  obtain ⟨B, rfl⟩ : ∃ B : Nat, a1 = B := ⟨a1.toNat, by unfold okSeat at hok; omega⟩
  obtain ⟨n, rfl⟩ : ∃ n : Nat, a2 = n := ⟨a2.toNat, by unfold okSeat at hok; omega⟩
  obtain ⟨r, rfl⟩ : ∃ r : Nat, a3 = r := ⟨a3.toNat, by unfold okSeat at hok; omega⟩
  have hB3 : B ≤ 3 := by unfold okSeat at hok; omega
  generalize hw1 : (w.alloc (.cells #[.int .i64 (B : Int), .int .i64 (n : Int), .int .i64 (r : Int)] 23)) = w1 at *
  go_enter Try.func8, Try.ntmps8
  go_wp2_with fail
  try rw [hw1]
  refine (iNew_yes B n r _ hok).mono ?_
  intro e w2 hp
  obtain ⟨ib, p, rfl, hst⟩ := new_St hp
  have hL := LawI.made hok hst
  clear hp hst hok hw1
  replace c0 := (B0.fr0 hL.st.fr).cell
  go_wp2_with fail
  refine (iFew_calls _ _ _ _ (.slice a l.length cap) l _ (hv.fr0 hL.st.fr)).mono ?_
  rintro e w3 ⟨b0, rfl, hfb0⟩
  replace hL := hL.keep hfb0
  replace c0 := (B0.fr0 hL.st.fr).cell
  clear hfb0
  cases b0
  case false =>
    go_wp2_with fail
    refine (iAlive_calls _).mono ?_
    rintro e w9 ⟨rfl, hf9⟩
    go_wp2
    go_ret
    exact ⟨rfl, (hf0.trans0 hL.st.fr).trans0 hf9⟩
  go_wp2_with fail
  go_loopw [8, 9, 10, 11, 12, 38, 67] (fun _ _ _ _ _ i _ wr => ∃ (k : Nat) (q : Pl) (R : Img), k ≤ l.length ∧ i = .int .i64 k ∧ LawI w1 wr ib q R B r) (fun _ _ _ _ _ i _ _ => l.length - (intOf i).toNat)
  case atStart => exact ⟨0, _, _, Nat.zero_le _, rfl, hL⟩
  clear hL c0
  obtain ⟨k, q, R, hk, rfl, hL⟩ := hrel
  have c0 := (B0.fr0 hL.st.fr).cell
  by_cases hlt : k < l.length
  case pos =>
    obtain ⟨b, off, vb, rfl, hb, hbn, hbv, d0, d1, d2, d3, d4⟩ := (hv.fr0 hL.st.fr).at hlt
    generalize l.getD k zOI = o at *
    have hL2 := hL.keep ((Fr.refl [] wr).alloc (.cells #[.int .i64 o.k, .int .i64 o.x, .int .i64 o.lo, vb, strL o.nm] 33))
    have hbv2 := hbv.fr ((Fr.refl [] wr).alloc (.cells #[.int .i64 o.k, .int .i64 o.x, .int .i64 o.lo, vb, strL o.nm] 33)) (fun _ h => by cases h)
    have B9 := (Blk.new wr [.int .i64 o.k, .int .i64 o.x, .int .i64 o.lo, vb, strL o.nm] 33).cell
    have kD := hL2.does hz o vb hbv2
    obtain ⟨vb1, vc1, rfl, _⟩ := hbv.sl.open
    obtain ⟨ok, ox, olo, ob, onm⟩ := o
    unfold opiV at kD
    clear hbv hbv2 hL2
    go_wp2_with fail
    refine kD.mono ?_
    rintro e w3 ⟨p3, rfl, hL3, _⟩
    clear kD hL
    generalize (opE R ⟨ok, ox, olo, ob, onm⟩ []).1 = ec at *
    generalize (opE R ⟨ok, ox, olo, ob, onm⟩ []).2 = R3 at *
    generalize opR R ⟨ok, ox, olo, ob, onm⟩ = et at *
    go_wp2_with fail
    refine (iCounts_calls _ hL3.st.img).mono ?_
    rintro e w4 ⟨nb, rv, rfl, hC, hnb, hrv, hf4⟩
    have hL4 := hL3.keep hf4
    go_wp2_with fail
    refine (iRefs_calls _ hL4.st.img hL4.ok).mono ?_
    rintro e w5 ⟨vr, rfl, hvr, hf5⟩
    have hL5 := hL4.keep hf5
    have hC5 := hC.fr0 hf5
    have hvr5 := SlF.of_owns hvr
    have hrl := hL5.hr
    rw [hrl] at hvr
    obtain ⟨ra, rc, rfl, _⟩ := Sl.of_owns hvr
    have kLen := fun W (h : CntW W nb rv R3.n) => cLen_calls nb rv R3.n W h
    have kAt := fun W (h : CntW W nb rv R3.n) x hx => cAt_calls nb rv R3.n W h x hx
    rw [hrl] at kLen kAt
    have hr512 := hL5.ok.room
    rw [hrl] at hr512
    have hnx : ∀ j, j < r → Hid (R3.n.take (j + 1) = R3.n.take j ++ [R3.n.getD j 0]) := fun j hj => hidIt (by
      have hj' : j < R3.n.length := by rw [hL5.hr]; exact hj
      rw [List.take_succ_eq_append_getElem hj', List.getD_eq_getElem?_getD, List.getElem?_eq_getElem hj']
      rfl)
    have hnend : Hid (R3.n.take r = R3.n) := hidIt (List.take_of_length_le (by rw [hL5.hr]; exact Nat.le_refl _))
    have hd5 := (Fr.refl [] w5).drew
    have hfb := hL5.st.fr.drew
    have hL6 := hL5.keep hd5
    have hC6 := hC5.fr0 hd5
    have hvr6 := SlF.fr0 hvr5 hd5
    have hz3 := hL6.st.fr.size
    clear hL3 hL4 hC hnb hrv hf4 hf5 hvr hrl hvr5 hC5 hL5 hd5
    go_wp2_with fail
    refine wp_region_G (Fr [] w5.drew) [(true, 0), (true, 1), (true, 2), (true, 3), (true, 5), (true, 6), (false, 4), (true, 7), (true, 8), (true, 9), (true, 10), (true, 12), (true, 13), (false, 11), (true, 14), (true, 15)] (by as_aux_lemma => kernel_rfl) (by as_aux_lemma => kernel_rfl) (Fr.refl _ _) ?_
    simp only [inOrder, List.map_cons, List.map_nil, List.getD_cons_zero, List.getD_cons_succ]
    iterate 6
      refine wpG_pure fun K hK => ?_
      go_simp
      refine hK _ ?_
      clear hK K
    refine wpG_one fun K hK => ?_
    go_simp
    refine (kLen _ hC6).mono ?_
    rintro e w6 ⟨rfl, rfl⟩
    refine hK _ _ (Fr.refl _ _) ?_
    clear hK K
    iterate 5
      refine wpG_pure fun K hK => ?_
      go_simp
      refine hK _ ?_
      clear hK K
    refine wpG_val (.int .i64 (r : Int)) (by first | rfl | go_simp) (fun X hX => by have cc := (B0.fr0 (hfb.trans0 hX)).cell; go_simp) ?_
    simp only [Act.put, List.setIfInBounds_toArray, List.set_cons_zero, List.set_cons_succ]
    refine wpG_one fun K hK => ?_
    go_simp
    refine (kLen _ hC6).mono ?_
    rintro e w6 ⟨rfl, rfl⟩
    refine hK _ _ (Fr.refl _ _) ?_
    clear hK K
    iterate 2
      refine wpG_pure fun K hK => ?_
      go_simp
      refine hK _ ?_
      clear hK K
    refine wpG_end ?_
    obtain ⟨wo, hwo⟩ : ∃ wo, wo = wr := ⟨_, rfl⟩
    subst hwo
    go_wp2_with fail
    go_loopw [11, 12, 67] (fun v _ j wj => ∃ m : Nat, m ≤ r ∧ j = .int .i64 (m : Int) ∧ wj.ownsRow w5.drew.heap.size 3 1 v m ((R3.n.take m).flatMap natC) ∧ Fr [] w5.drew wj) (fun _ _ j _ => r - (intOf j).toNat)
    case atStart => exact ⟨0, Nat.zero_le _, rfl, World.ownsRow_nil _ _ _ _, Fr.refl _ _⟩
    obtain ⟨m, hm, rfl, ho, hF⟩ := hrel
    by_cases hlm : m < r
    case pos =>
      have hx := hnx m hlm
      have kA := kAt _ (hC6.fr0 hF) m (by omega)
      have hsm := hC6.big
      generalize R3.n.getD m 0 = x at *
      obtain ⟨av, cv, rfl, _⟩ := Sl.of_owns ho
      have hz : w5.heap.size ≤ wr.heap.size := hF.size
      clear hnx hnend kAt kLen
      go_wp2_with fail
      refine kA.mono ?_
      rintro e w7 ⟨rfl, rfl⟩
      have hone : ∀ u ∈ [Value.int .i64 (x : Int)], u.oneCell' = true := fun u hu => by rw [List.mem_singleton.1 hu]; rfl
      go_wp2_with (at_builtin; refine Hid.out ?_)
      refine hidIt ?_
      refine wpList_append1 50 3 _ 1 8 Try.underlying50 infoN rfl (by decide) (by decide) rfl _ _ rfl w5.drew.heap.size _ _ _ rfl (ho.alloc _) [.int .i64 (x : Int)] rfl hone wr.heap.size rfl (Blk.new' (by simp) _ _) (by omega) (by simp; omega) ?_
      intro v' w8 hown2 hgrow hloc
      have hF2 : Fr [] w5.drew w8 := (hF.alloc _).grown hgrow (fun y hy => .inr (own_base ho y hy))
      rw [show [Value.int .i64 (x : Int)] = [x].flatMap natC from rfl, ← List.flatMap_append, ← hx.out] at hown2
      obtain ⟨a2, q2, rfl, _⟩ := Sl.of_owns hown2
      clear hgrow hloc
      go_wp2
      go_roundw
      case rel => exact ⟨m + 1, by omega, by go_num, hown2, hF2⟩
      case measure => simp [intOf]; omega
    have hme : m = r := by omega
    subst hme
    rw [hnend.out] at ho
    have hsn := SlF.of_owns (f := natC) (l := R3.n) (by rw [hL6.hr]; exact ho)
    obtain ⟨av, cv, rfl, _⟩ := Sl.of_owns ho
    have hL7 := hL6.keep hF
    have hC7 := hC6.fr0 hF
    have hvr7 := SlF.fr0 hvr6 hF
    clear hlm hm hnx hnend kAt kLen ho hL6 hC6 hvr6
    go_wp2_with fail
    refine (SameN_calls _ _ _ _ hsn hvr7).mono ?_
    rintro e w9 ⟨rfl, hf9⟩
    have hL9 := hL7.keep hf9
    have hC9 := hC7.fr0 hf9
    clear hL7 hC7 hsn hvr7
    go_wp2_with fail
    refine (cFree_calls _ _ _ _ hC9).mono ?_
    rintro e w10 ⟨rfl, rfl⟩
    go_wp2_with fail
    refine (iFree_calls _ hL9.st.img).mono ?_
    rintro e w10 ⟨rfl, rfl⟩
    clear hC9
    go_wp2
    go_roundw
    case rel => exact ⟨k + 1, p3, R3, by omega, by go_num, hL9⟩
    case measure => simp [intOf]; omega
  have hke : k = l.length := by omega
  subst hke
  clear hlt hk hlc hv
  go_wp2_with fail
  refine (iAlive_calls _).mono ?_
  rintro e w9 ⟨rfl, hf9⟩
  go_wp2
  go_ret
  exact ⟨rfl, (hf0.trans0 hL.st.fr).trans0 hf9⟩
end Go.Proofs.Ytilhbjjjmdnjmaa
