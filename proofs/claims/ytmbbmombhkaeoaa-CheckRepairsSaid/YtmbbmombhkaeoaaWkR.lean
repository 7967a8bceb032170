/-
  ref19.Repair: counts, as ints hold them.
-/
import Derived.Test.YtmbbmombhkaeoaaWkQ
import Derived.BigQuiet
namespace Go.Proofs.Ytmbbmombhkaeoaa
open Go.RowKit Go.Maps
attribute [local go_sem] Oper.semAt_some
attribute [local go_sem high] equalSlot0 equalSlotR0

set_option maxRecDepth 100000 in
set_option maxHeartbeats 6400000 in
theorem rRepair_callsW (v u : Value) (n : List Int) (ls R : List (List Slt)) (w : World) (hv : SlI w v n) (hu : SlR w u ls) (ht : Bnd ls) (hn : n.length ≤ 1048576) (hRl : R.map List.length = ls.map List.length)
    (hRf : R.flatten = hsW n.length (len0 ls) ls.flatten) : Calls Try.prog 16 #[v, u] w fun e w' => ∃ v0 v1, e = .returned (.tuple #[v0, v1, .int .i64 (wz (cntTo (diffAt n (rcW n.length ls.flatten)) n.length + cntTo (chgAt ls.flatten (hsW n.length (len0 ls) ls.flatten)) ls.flatten.length))]) ∧
      SlI w' v0 (rcW n.length ls.flatten) ∧ SlR w' v1 R ∧ Fr [] w w' := by
  obtain ⟨an, capn, rfl, hlcn, hcmn, _⟩ := hv.open
  obtain ⟨a', cap', rfl, hlc', hcm'⟩ := hu.open
  unfold maxLen at hcm' hcmn
  have htl := ht.1
  have hcl := rcW_length n.length ls.flatten
  have hcg : ∀ j, j < n.length → (rcW n.length ls.flatten).getD j 0 = wz (rc1 (n.length : Int) (j : Int) ls.flatten) := fun j hj => rcW_getD _ hj
  have kR := fun (h : Int) (w' : World) (hf : Fr [] w w') => Refs_callsW (n.length : Int) h (.slice a' ls.length cap') ls w' (hu.fr0 hf) ht
  unfold rc at kR
  have hlen : ∀ i, (R.getD i []).length = (ls.getD i []).length := lens_at hRl
  have hRll : R.length = ls.length := by have := congrArg List.length hRl; simpa using this
  have hslot : ∀ i k, i < ls.length → k < (ls.getD i []).length → (ls.getD i []).getD k zS = ls.flatten.getD (((ls.take i).map List.length).sum + k) zS ∧ (R.getD i []).getD k zS = fix2 n.length (len0 ls) (rcW n.length ls.flatten) (((ls.take i).map List.length).sum + k) (fix1 n.length (ls.flatten.getD (((ls.take i).map List.length).sum + k) zS)) ∧
      (R.getD i []).getD k zS = (hsW n.length (len0 ls) ls.flatten).getD (((ls.take i).map List.length).sum + k) zS ∧ ((ls.take i).map List.length).sum + k < ls.flatten.length ∧ (i = 0 ↔ ((ls.take i).map List.length).sum + k < len0 ls) := fun i k hi hk => by
    have e1 := flat_get ls i k hi hk
    have e2 := flat_get R i k (by rw [hRll]; exact hi) (by rw [hlen]; exact hk)
    have hlt := flat_lt ls i k hi hk
    rw [lens_take hRl, hRf] at e2
    refine ⟨e1.symm, ?_, e2.symm, hlt, plain_row0 hi hk⟩
    rw [← e2, hsW_at n.length (len0 ls) ls.flatten hlt, gs_at n.length ls.flatten hlt, gsW_rc]
  generalize hsW n.length (len0 ls) ls.flatten = hs at *
  have hC1 := cntTo_le (diffAt n (rcW n.length ls.flatten)) n.length
  go_enter Try.func16, Try.ntmps16
  go_wp2
  go_loopw [7, 8, 9] (fun ch x i wr => ∃ j M : Nat, j ≤ n.length ∧ i = .int .i64 j ∧ ch = .int .i64 (wz M) ∧ Hid (M = cntTo (diffAt n (rcW n.length ls.flatten)) j) ∧ wr.ownsRow w.heap.size 3 1 x j (((rcW n.length ls.flatten).take j).flatMap intC) ∧ Fr [] w wr) (fun _ _ i _ => n.length - (intOf i).toNat)
  case atStart => exact ⟨0, 0, Nat.zero_le _, rfl, rfl, hidIt rfl, World.ownsRow_nil _ _ _ _, Fr.refl _ _⟩
  case round =>
    obtain ⟨j, M, hj, rfl, rfl, HM, hown, hF⟩ := hrel
    by_cases hlt : j < n.length
    · have hcj := hcg j hlt
      have Htk : Hid ((rcW n.length ls.flatten).take (j + 1) = (rcW n.length ls.flatten).take j ++ [(rcW n.length ls.flatten).getD j 0]) := hidIt (take_succ_getD 0 (by rw [hcl]; exact hlt))
      have Hcn := hidIt (cntTo_succ (diffAt n (rcW n.length ls.flatten)) j)
      have Hd : Hid (diffAt n (rcW n.length ls.flatten) j = (n.getD j 0 != (rcW n.length ls.flatten).getD j 0)) := hidIt rfl
      have hcb := cntTo_le (diffAt n (rcW n.length ls.flatten)) j
      have hwM := wz_succ M
      have hkr := kR (j : Int) wr hF
      rw [hcj] at Htk Hd
      have hxs : ((((rcW n.length ls.flatten).take j ++ [wz (rc1 (n.length : Int) (j : Int) ls.flatten)]).flatMap intC))[j]? = some (.int .i64 (wz (rc1 (n.length : Int) (j : Int) ls.flatten))) := by
        rw [flatI_at, List.getElem?_append_right (by rw [List.length_take, hcl]; omega)]
        rw [List.length_take, hcl, Nat.min_eq_left hj]
        simp
      have hub := own_base hown
      clear hslot kR hcg hcj hcb
      generalize wz (rc1 (n.length : Int) (j : Int) ls.flatten) = y at *
      generalize (rcW n.length ls.flatten).take j = done at *
      go_wp2_with fail
      refine hkr.mono ?_
      rintro e w1 ⟨rfl, hf1⟩
      have hown1 := owns_fr hown hf1 (by simp)
      have hF1 := hF.trans0 hf1
      have hz1 := hF1.size
      clear hkr hown
      go_wp2_with (at_builtin; refine Hid.out ?_)
      refine hidIt ?_
      refine wpList_append1W 22 3 (.int .i64 0) 1 8 Try.underlying22 infoInt rfl (by decide) rfl _ _ rfl w.heap.size u8 _ _ rfl (hown1.alloc _) (intC (y : Int)) rfl int_one w1.heap.size rfl (Blk.new w1 [_] _) (by omega) (by unfold maxLen; omega) (by simp; omega) ?_
      intro v' w2 hown2 hgrow hloc
      have hF2 := (hF1.alloc (.cells #[.int .i64 (y : Int)] 3)).grown hgrow (fun x hx => .inr (hub x hx))
      replace hown2 : w2.ownsRow w.heap.size 3 1 v' (j + 1) ((done ++ [(y : Int)]).flatMap intC) := by rw [List.flatMap_append]; simpa using hown2
      obtain ⟨g, cg, rfl, _, _⟩ := owns_succ hown2 (by omega)
      have cgj := (owns_at hown2 hxs).1
      obtain ⟨bn, on, rfl, hbn, en⟩ := SlI.at (SlF.fr0 hv hF2 : SlI _ _ _) hlt
      generalize n.getD j 0 = x at *
      have hxb : (x != (y : Int)) = !decide (x = (y : Int)) := by simp only [bne]; congr 1
      rw [hxb] at Hd
      have hjn : (j : Int) < n.length := by omega
      have hj0 : (0 : Int) ≤ j := by omega
      go_wp2_with fail
      go_quiet (fail)
      generalize decide (x = (y : Int)) = B at *
      cases B with
      | true =>
        have hM6 : Hid (M = cntTo (diffAt n (rcW n.length ls.flatten)) (j + 1)) := hidIt (by rw [Hcn.out, Hd.out]; simp; exact HM.out)
        clear Hcn Hd HM
        go_wp2
        go_roundw
        case rel => exact ⟨j + 1, M, by omega, by go_num, rfl, hM6, by rw [Htk.out]; repeat (first | exact hown2 | apply owns_drewN | apply owns_drew), by repeat (first | exact hF2 | apply Fr.drew | apply Fr.drewN)⟩
        case measure => simp [intOf]; omega
      | false =>
        have hM6 : Hid (M + 1 = cntTo (diffAt n (rcW n.length ls.flatten)) (j + 1)) := hidIt (by rw [Hcn.out, Hd.out]; simp; exact HM.out)
        clear Hcn Hd HM
        go_wp2
        go_roundw
        case rel => exact ⟨j + 1, M + 1, by omega, by go_num, rfl, hM6, by rw [Htk.out]; repeat (first | exact hown2 | apply owns_drewN | apply owns_drew), by repeat (first | exact hF2 | apply Fr.drew | apply Fr.drewN)⟩
        case measure => simp [intOf]; omega
    · have hje : j = n.length := by omega
      subst hje
      rw [List.take_of_length_le (by rw [hcl]; exact Nat.le_refl _)] at hown
      have sC : SlI wr u8 (rcW n.length ls.flatten) := SlF.of_owns (by rw [hcl]; exact hown)
      generalize hCC : rcW n.length ls.flatten = C at *
      generalize hfs : ls.flatten = fs at *
      have kN := kR
      clear kR hown hj hlt hC1 hcl
      generalize wr = wA at *
      go_wp2_with fail
      go_loopw [7, 10, 11] (fun ch x i wr => ∃ j M2 : Nat, j ≤ ls.length ∧ i = .int .i64 j ∧ ch = .int .i64 (wz M2) ∧ Hid (M2 = M + cntTo (chgAt fs hs) ((ls.take j).map List.length).sum) ∧ MadeR wr wA.heap.size 42 x (R.take j) ∧ Fr [] wA wr) (fun _ _ i _ => ls.length - (intOf i).toNat)
      case atStart => exact ⟨0, M, Nat.zero_le _, rfl, rfl, hidIt rfl, MadeR.nil _ _ _, Fr.refl _ _⟩
      case round =>
        obtain ⟨i, M2, hi, rfl, rfl, HM2, hMd, hF1⟩ := hrel
        have hFw := hF.trans0 hF1
        by_cases hlt : i < ls.length
        · obtain ⟨b, off, a2, cap2, rfl, hb, c0, hs2, hm2⟩ := SlR.at (hu.fr0 hFw) hlt
          have Hst : Hid (R.take (i + 1) = R.take i ++ [R.getD i []]) := hidIt (take_succ_getD [] (by rw [hRll]; exact hlt))
          have hdl : (R.take i).length + 1 ≤ 5864062014634 := by rw [List.length_take]; omega
          have hsl := fun k => hslot i k hlt
          have Hsum := hidIt (sum_take_succ hlt)
          have Hli := hidIt (hlen i)
          have hml := ht.2 i
          clear hslot hlen
          generalize R.take i = done at *
          generalize ls.getD i [] = l at *
          generalize R.getD i [] = L at *
          generalize ((ls.take i).map List.length).sum = T at *
          have hll' : l.length ≤ 5864062014634 := hml
          generalize wr = wo at *
          have hi' : (i : Int) < ls.length := by omega
          have hi0 : (0 : Int) ≤ i := by omega
          go_wp2_with fail
          go_loopw [7, 12, 13] (fun ch x j wr => ∃ k M3 : Nat, k ≤ l.length ∧ j = .int .i64 k ∧ ch = .int .i64 (wz M3) ∧ Hid (M3 = M + cntTo (chgAt fs hs) (T + k)) ∧ wr.ownsRow wo.heap.size 44 3 x k ((L.take k).flatMap slotC) ∧ Fr [] wo wr) (fun _ _ j _ => l.length - (intOf j).toNat)
          case atStart => exact ⟨0, M2, Nat.zero_le _, rfl, rfl, hidIt HM2.out, World.ownsRow_nil _ _ _ _, Fr.refl _ _⟩
          case round =>
            obtain ⟨k, M3, hk, rfl, rfl, HM3, hown, hF2⟩ := hrel
            by_cases hkl : k < l.length
            · obtain ⟨b3, off3, rfl, hb3, d0, d1, d2⟩ := SlS.at (SlF.fr0 hs2 hF2 : SlS _ _ _) hkl
              obtain ⟨g1, g2, g3, g4, g5⟩ := hsl k hkl
              have Htk : Hid ((L.take (k + 1)).flatMap slotC = (L.take k).flatMap slotC ++ slotC (L.getD k zS)) := hidIt (take_flat_succ (by rw [Hli.out]; exact hkl))
              have Hcn := hidIt (cntTo_succ (chgAt fs hs) (T + k))
              have hcb := cntTo_le (chgAt fs hs) (T + k)
              have hwM3 := wz_succ M3
              have Hch : Hid (chgAt fs hs (T + k) = !sEq (L.getD k zS) (l.getD k zS)) := hidIt (by unfold chgAt; rw [← g3, ← g1])
              have Hfin : Hid (L.getD k zS = fix2 n.length (len0 ls) C (T + k) (fix1 n.length (l.getD k zS))) := hidIt (by rw [g1]; exact g2)
              have Hrow : Hid (decide (T + k < len0 ls) = decide (i = 0)) := hidIt (by simp only [g5])
              have c0w := (World.cell?_of_block (hF2.block b hb (by simp))).trans c0
              have hbw : b < wr.heap.size := Nat.lt_of_lt_of_le hb hF2.size
              have hub := own_base hown
              have hzo := hF2.size
              clear g1 g2 g3 g4 g5 hcb hsl
              generalize L.getD k zS = F at *
              generalize l.getD k zS = s at *
              generalize L.take k = dl at *
              obtain ⟨p, q, r⟩ := s
              simp only at d0 d1 d2
              have hk' : (k : Int) < l.length := by omega
              have hk0 : (0 : Int) ≤ k := by omega
              have hfa := (Fr.refl [] wr).alloc (.cells #[.int .i64 p, .int .i64 q, .bool r] 44)
              have Bt := Blk.new wr [.int .i64 p, .int .i64 q, .bool r] 44
              have hcells : ∀ X, Fr [] wr X → X.cell? ⟨b, off + i, none⟩ = some (.slice (some ⟨b3, off3, none⟩) l.length cap2) ∧ X.cell? ⟨b3, off3 + k * 3, none⟩ = some (.int .i64 p) ∧ X.cell? ⟨b3, off3 + k * 3 + 1, none⟩ = some (.int .i64 q) ∧ X.cell? ⟨b3, off3 + k * 3 + 2, none⟩ = some (.bool r) := fun X hX =>
                ⟨(World.cell?_of_block (hX.block b hbw (by simp))).trans c0w, (World.cell?_of_block (hX.block b3 hb3 (by simp))).trans d0, (World.cell?_of_block (hX.block b3 hb3 (by simp))).trans d1, (World.cell?_of_block (hX.block b3 hb3 (by simp))).trans d2⟩
              go_wp2_with fail
              refine (rBad_calls p q r (n.length : Int) _).mono ?_
              rintro e w1 ⟨rfl, hf1⟩
              replace Bt := Bt.fr0 hf1
              have hf01 := hfa.trans0 hf1
              clear hfa hf1
              cases hbd : badS (p, q, r) (n.length : Int) with
              | true =>
                have eF : F = (0, 0, false) := by rw [Hfin.out]; unfold fix1; rw [hbd]; rfl
                subst eF
                have ct := Bt.cell
                have ft := Bt.frozen
                have hs3 : Fr [] wr (((w1.setCell ⟨wr.heap.size, 0, none⟩ (.int .i64 0)).setCell ⟨wr.heap.size, 1, none⟩ (.int .i64 0)).setCell ⟨wr.heap.size, 2, none⟩ (.bool false)) := ((hf01.setCell (.inr (by simp)) _).setCell (.inr (by simp)) _).setCell (.inr (by simp)) _
                have Bz := ((Bt.setCell 0 (.int .i64 0)).setCell 1 (.int .i64 0)).setCell 2 (.bool false)
                simp only [List.set_cons_zero, List.set_cons_succ] at Bz
                by_cases h0 : i = 0
                · have h1 : ((i : Int) == 0) = true := by simp; omega
                  clear h0
                  go_wp2_with fail
                  refine (rHas_calls 0 0 false (n.length : Int) _).mono ?_
                  rintro e w3 ⟨rfl, hf3⟩
                  rw [show hasS (0, 0, false) (n.length : Int) = false from rfl]
                  have hf03 := hs3.trans0 hf3
                  replace Bz := Bz.fr0 hf3
                  clear ct ft
                  have ct := Bz.cell
                  have ft := Bz.frozen
                  have lt := Bz.lt
                  go_wp2_with fail
                  have hfX : Fr [] wr (w3.setCell ⟨wr.heap.size, 2, none⟩ (.bool false)) := hf03.setCell (.inr (by simp)) _
                  have BtX : Blk (w3.setCell ⟨wr.heap.size, 2, none⟩ (.bool false)) wr.heap.size [.int .i64 0, .int .i64 0, .bool false] 44 := Bz.setCell 2 (.bool false)
                  generalize hwx : (w3.setCell ⟨wr.heap.size, 2, none⟩ (.bool false)) = wx at *
                  try rw [hwx]
                  clear hwx
                  clear ct ft
                  have hownx := owns_fr hown hfX (by simp)
                  have hzx := hfX.size
                  refine wp_region_G (Fr [] wx.drew) [(true, 0), (true, 1), (true, 2), (true, 3), (true, 4), (true, 5), (true, 6), (true, 7), (true, 8)] (by as_aux_lemma => kernel_rfl) (by as_aux_lemma => kernel_rfl) (Fr.refl _ _) ?_
                  simp only [inOrder, List.map_cons, List.map_nil, List.getD_cons_zero, List.getD_cons_succ]
                  refine wpG_val (.agg #[.int .i64 (0), .int .i64 (0), .bool false]) (by first | rfl | go_simp) (fun X hX => by have cc := ((Blk.drew BtX).fr0 hX).cell; go_simp) ?_
                  simp only [Act.put, List.setIfInBounds_toArray, List.set_cons_zero, List.set_cons_succ]
                  iterate 3
                    refine wpG_pure fun K hK => ?_
                    go_simp
                    refine hK _ ?_
                    clear hK K
                  refine wpG_val (.slice (some ⟨b3, off3, none⟩) l.length cap2) (by first | rfl | go_simp) (fun X hX => by obtain ⟨e0, e1, e2, e3⟩ := hcells X (hfX.drew.trans0 hX); go_simp) ?_
                  simp only [Act.put, List.setIfInBounds_toArray, List.set_cons_zero, List.set_cons_succ]
                  iterate 2
                    refine wpG_pure fun K hK => ?_
                    go_simp
                    refine hK _ ?_
                    clear hK K
                  refine wpG_val (.agg #[.int .i64 p, .int .i64 q, .bool r]) (by first | rfl | go_simp) (fun X hX => by obtain ⟨e0, e1, e2, e3⟩ := hcells X (hfX.drew.trans0 hX); go_simp) ?_
                  simp only [Act.put, List.setIfInBounds_toArray, List.set_cons_zero, List.set_cons_succ]
                  iterate 1
                    refine wpG_pure fun K hK => ?_
                    go_simp
                    refine hK _ ?_
                    clear hK K
                  refine wpG_end ?_
                  generalize sEq ((0), (0), false) (p, q, r) = B at *
                  have ctx := (Blk.drew BtX).cell
                  clear hcells
                  cases B with
                  | true =>
                    have HM4 : Hid (M3 = M + cntTo (chgAt fs hs) (T + (k + 1))) := hidIt (by rw [← Nat.add_assoc, Hcn.out, Hch.out]; simp; rw [HM3.out])
                    clear Hcn Hch HM3 Hrow Hfin
                    go_wp2_with (at_builtin; refine Hid.out ?_)
                    refine hidIt ?_
                    refine wpList_append1W 42 44 _ 3 24 Try.underlying42 infoSlotR rfl (by decide) rfl _ _ rfl wo.heap.size u12 _ _ rfl ((owns_drew hownx).alloc _) (slotC ((0), (0), false)) rfl slot_one wx.heap.size rfl (Blk.new' (by simp) _ _) (by omega) (by unfold maxLen; omega) (by simp; omega) ?_
                    intro v' w9 hown2 hgrow hloc
                    go_wp2
                    go_roundw
                    case rel => exact ⟨k + 1, M3, by omega, by go_num, rfl, HM4, by rw [Htk.out]; exact hown2, (((hF2.trans0 hfX).drew).alloc _).grown hgrow (fun x hx => .inr (hub x hx))⟩
                    case measure => simp [intOf]; omega
                  | false =>
                    have HM4 : Hid (M3 + 1 = M + cntTo (chgAt fs hs) (T + (k + 1))) := hidIt (by rw [← Nat.add_assoc, Hcn.out, Hch.out]; simp; rw [HM3.out]; omega)
                    clear Hcn Hch HM3 Hrow Hfin
                    go_wp2_with (at_builtin; refine Hid.out ?_)
                    refine hidIt ?_
                    refine wpList_append1W 42 44 _ 3 24 Try.underlying42 infoSlotR rfl (by decide) rfl _ _ rfl wo.heap.size u12 _ _ rfl ((owns_drew hownx).alloc _) (slotC ((0), (0), false)) rfl slot_one wx.heap.size rfl (Blk.new' (by simp) _ _) (by omega) (by unfold maxLen; omega) (by simp; omega) ?_
                    intro v' w9 hown2 hgrow hloc
                    go_wp2
                    go_roundw
                    case rel => exact ⟨k + 1, M3 + 1, by omega, by go_num, rfl, HM4, by rw [Htk.out]; exact hown2, (((hF2.trans0 hfX).drew).alloc _).grown hgrow (fun x hx => .inr (hub x hx))⟩
                    case measure => simp [intOf]; omega
                · have h1 : ((i : Int) == 0) = false := by simp; omega
                  go_wp2_with fail
                  have hfX : Fr [] wr ((((w1.setCell ⟨wr.heap.size, 0, none⟩ (.int .i64 0)).setCell ⟨wr.heap.size, 1, none⟩ (.int .i64 0)).setCell ⟨wr.heap.size, 2, none⟩ (.bool false)).setCell ⟨wr.heap.size, 2, none⟩ (.bool false)) := hs3.setCell (.inr (by simp)) _
                  have BtX : Blk ((((w1.setCell ⟨wr.heap.size, 0, none⟩ (.int .i64 0)).setCell ⟨wr.heap.size, 1, none⟩ (.int .i64 0)).setCell ⟨wr.heap.size, 2, none⟩ (.bool false)).setCell ⟨wr.heap.size, 2, none⟩ (.bool false)) wr.heap.size [.int .i64 0, .int .i64 0, .bool false] 44 := Bz.setCell 2 (.bool false)
                  generalize hwx : ((((w1.setCell ⟨wr.heap.size, 0, none⟩ (.int .i64 0)).setCell ⟨wr.heap.size, 1, none⟩ (.int .i64 0)).setCell ⟨wr.heap.size, 2, none⟩ (.bool false)).setCell ⟨wr.heap.size, 2, none⟩ (.bool false)) = wx at *
                  try rw [hwx]
                  clear hwx
                  clear ct ft
                  have hownx := owns_fr hown hfX (by simp)
                  have hzx := hfX.size
                  refine wp_region_G (Fr [] wx.drew) [(true, 0), (true, 1), (true, 2), (true, 3), (true, 4), (true, 5), (true, 6), (true, 7), (true, 8)] (by as_aux_lemma => kernel_rfl) (by as_aux_lemma => kernel_rfl) (Fr.refl _ _) ?_
                  simp only [inOrder, List.map_cons, List.map_nil, List.getD_cons_zero, List.getD_cons_succ]
                  refine wpG_val (.agg #[.int .i64 (0), .int .i64 (0), .bool false]) (by first | rfl | go_simp) (fun X hX => by have cc := ((Blk.drew BtX).fr0 hX).cell; go_simp) ?_
                  simp only [Act.put, List.setIfInBounds_toArray, List.set_cons_zero, List.set_cons_succ]
                  iterate 3
                    refine wpG_pure fun K hK => ?_
                    go_simp
                    refine hK _ ?_
                    clear hK K
                  refine wpG_val (.slice (some ⟨b3, off3, none⟩) l.length cap2) (by first | rfl | go_simp) (fun X hX => by obtain ⟨e0, e1, e2, e3⟩ := hcells X (hfX.drew.trans0 hX); go_simp) ?_
                  simp only [Act.put, List.setIfInBounds_toArray, List.set_cons_zero, List.set_cons_succ]
                  iterate 2
                    refine wpG_pure fun K hK => ?_
                    go_simp
                    refine hK _ ?_
                    clear hK K
                  refine wpG_val (.agg #[.int .i64 p, .int .i64 q, .bool r]) (by first | rfl | go_simp) (fun X hX => by obtain ⟨e0, e1, e2, e3⟩ := hcells X (hfX.drew.trans0 hX); go_simp) ?_
                  simp only [Act.put, List.setIfInBounds_toArray, List.set_cons_zero, List.set_cons_succ]
                  iterate 1
                    refine wpG_pure fun K hK => ?_
                    go_simp
                    refine hK _ ?_
                    clear hK K
                  refine wpG_end ?_
                  generalize sEq ((0), (0), false) (p, q, r) = B at *
                  have ctx := (Blk.drew BtX).cell
                  clear hcells
                  cases B with
                  | true =>
                    have HM4 : Hid (M3 = M + cntTo (chgAt fs hs) (T + (k + 1))) := hidIt (by rw [← Nat.add_assoc, Hcn.out, Hch.out]; simp; rw [HM3.out])
                    clear Hcn Hch HM3 Hrow Hfin
                    go_wp2_with (at_builtin; refine Hid.out ?_)
                    refine hidIt ?_
                    refine wpList_append1W 42 44 _ 3 24 Try.underlying42 infoSlotR rfl (by decide) rfl _ _ rfl wo.heap.size u12 _ _ rfl ((owns_drew hownx).alloc _) (slotC ((0), (0), false)) rfl slot_one wx.heap.size rfl (Blk.new' (by simp) _ _) (by omega) (by unfold maxLen; omega) (by simp; omega) ?_
                    intro v' w9 hown2 hgrow hloc
                    go_wp2
                    go_roundw
                    case rel => exact ⟨k + 1, M3, by omega, by go_num, rfl, HM4, by rw [Htk.out]; exact hown2, (((hF2.trans0 hfX).drew).alloc _).grown hgrow (fun x hx => .inr (hub x hx))⟩
                    case measure => simp [intOf]; omega
                  | false =>
                    have HM4 : Hid (M3 + 1 = M + cntTo (chgAt fs hs) (T + (k + 1))) := hidIt (by rw [← Nat.add_assoc, Hcn.out, Hch.out]; simp; rw [HM3.out]; omega)
                    clear Hcn Hch HM3 Hrow Hfin
                    go_wp2_with (at_builtin; refine Hid.out ?_)
                    refine hidIt ?_
                    refine wpList_append1W 42 44 _ 3 24 Try.underlying42 infoSlotR rfl (by decide) rfl _ _ rfl wo.heap.size u12 _ _ rfl ((owns_drew hownx).alloc _) (slotC ((0), (0), false)) rfl slot_one wx.heap.size rfl (Blk.new' (by simp) _ _) (by omega) (by unfold maxLen; omega) (by simp; omega) ?_
                    intro v' w9 hown2 hgrow hloc
                    go_wp2
                    go_roundw
                    case rel => exact ⟨k + 1, M3 + 1, by omega, by go_num, rfl, HM4, by rw [Htk.out]; exact hown2, (((hF2.trans0 hfX).drew).alloc _).grown hgrow (fun x hx => .inr (hub x hx))⟩
                    case measure => simp [intOf]; omega
              | false =>
                have eF : F = (p, q, own2 n.length (len0 ls) C (T + k) (p, q, r)) := by rw [Hfin.out]; unfold fix1; rw [hbd]; rfl
                have eO : own2 n.length (len0 ls) C (T + k) (p, q, r) = (hasS (p, q, r) (n.length : Int) && decide (i = 0) && (C.getD q.toNat 0 == 1)) := by unfold own2; rw [Hrow.out]
                have ct := Bt.cell
                have ft := Bt.frozen
                have lt := Bt.lt
                by_cases h0 : i = 0
                · have kH := rHas_calls p q r (n.length : Int) w1
                  cases hh : hasS (p, q, r) (n.length : Int) with
                  | false =>
                    rw [hh] at eO kH
                    simp only [Bool.false_and] at eO
                    rw [eO] at eF
                    subst eF
                    have h1 : ((i : Int) == 0) = true := by simp; omega
                    clear h0
                    go_wp2_with fail
                    refine kH.mono ?_
                    rintro e w3 ⟨rfl, hf3⟩
                    have hf03 := hf01.trans0 hf3
                    replace Bt := Bt.fr0 hf3
                    clear ct ft lt
                    have ct := Bt.cell
                    have ft := Bt.frozen
                    have lt := Bt.lt
                    go_wp2_with fail
                    have hfX : Fr [] wr (w3.setCell ⟨wr.heap.size, 2, none⟩ (.bool false)) := hf03.setCell (.inr (by simp)) _
                    have BtX : Blk (w3.setCell ⟨wr.heap.size, 2, none⟩ (.bool false)) wr.heap.size [.int .i64 p, .int .i64 q, .bool false] 44 := Bt.setCell 2 (.bool false)
                    generalize hwx : (w3.setCell ⟨wr.heap.size, 2, none⟩ (.bool false)) = wx at *
                    try rw [hwx]
                    clear hwx
                    clear ct ft
                    have hownx := owns_fr hown hfX (by simp)
                    have hzx := hfX.size
                    refine wp_region_G (Fr [] wx.drew) [(true, 0), (true, 1), (true, 2), (true, 3), (true, 4), (true, 5), (true, 6), (true, 7), (true, 8)] (by as_aux_lemma => kernel_rfl) (by as_aux_lemma => kernel_rfl) (Fr.refl _ _) ?_
                    simp only [inOrder, List.map_cons, List.map_nil, List.getD_cons_zero, List.getD_cons_succ]
                    refine wpG_val (.agg #[.int .i64 (p), .int .i64 (q), .bool false]) (by first | rfl | go_simp) (fun X hX => by have cc := ((Blk.drew BtX).fr0 hX).cell; go_simp) ?_
                    simp only [Act.put, List.setIfInBounds_toArray, List.set_cons_zero, List.set_cons_succ]
                    iterate 3
                      refine wpG_pure fun K hK => ?_
                      go_simp
                      refine hK _ ?_
                      clear hK K
                    refine wpG_val (.slice (some ⟨b3, off3, none⟩) l.length cap2) (by first | rfl | go_simp) (fun X hX => by obtain ⟨e0, e1, e2, e3⟩ := hcells X (hfX.drew.trans0 hX); go_simp) ?_
                    simp only [Act.put, List.setIfInBounds_toArray, List.set_cons_zero, List.set_cons_succ]
                    iterate 2
                      refine wpG_pure fun K hK => ?_
                      go_simp
                      refine hK _ ?_
                      clear hK K
                    refine wpG_val (.agg #[.int .i64 p, .int .i64 q, .bool r]) (by first | rfl | go_simp) (fun X hX => by obtain ⟨e0, e1, e2, e3⟩ := hcells X (hfX.drew.trans0 hX); go_simp) ?_
                    simp only [Act.put, List.setIfInBounds_toArray, List.set_cons_zero, List.set_cons_succ]
                    iterate 1
                      refine wpG_pure fun K hK => ?_
                      go_simp
                      refine hK _ ?_
                      clear hK K
                    refine wpG_end ?_
                    generalize sEq ((p), (q), false) (p, q, r) = B at *
                    have ctx := (Blk.drew BtX).cell
                    clear hcells
                    cases B with
                    | true =>
                      have HM4 : Hid (M3 = M + cntTo (chgAt fs hs) (T + (k + 1))) := hidIt (by rw [← Nat.add_assoc, Hcn.out, Hch.out]; simp; rw [HM3.out])
                      clear Hcn Hch HM3 Hrow Hfin
                      go_wp2_with (at_builtin; refine Hid.out ?_)
                      refine hidIt ?_
                      refine wpList_append1W 42 44 _ 3 24 Try.underlying42 infoSlotR rfl (by decide) rfl _ _ rfl wo.heap.size u12 _ _ rfl ((owns_drew hownx).alloc _) (slotC ((p), (q), false)) rfl slot_one wx.heap.size rfl (Blk.new' (by simp) _ _) (by omega) (by unfold maxLen; omega) (by simp; omega) ?_
                      intro v' w9 hown2 hgrow hloc
                      go_wp2
                      go_roundw
                      case rel => exact ⟨k + 1, M3, by omega, by go_num, rfl, HM4, by rw [Htk.out]; exact hown2, (((hF2.trans0 hfX).drew).alloc _).grown hgrow (fun x hx => .inr (hub x hx))⟩
                      case measure => simp [intOf]; omega
                    | false =>
                      have HM4 : Hid (M3 + 1 = M + cntTo (chgAt fs hs) (T + (k + 1))) := hidIt (by rw [← Nat.add_assoc, Hcn.out, Hch.out]; simp; rw [HM3.out]; omega)
                      clear Hcn Hch HM3 Hrow Hfin
                      go_wp2_with (at_builtin; refine Hid.out ?_)
                      refine hidIt ?_
                      refine wpList_append1W 42 44 _ 3 24 Try.underlying42 infoSlotR rfl (by decide) rfl _ _ rfl wo.heap.size u12 _ _ rfl ((owns_drew hownx).alloc _) (slotC ((p), (q), false)) rfl slot_one wx.heap.size rfl (Blk.new' (by simp) _ _) (by omega) (by unfold maxLen; omega) (by simp; omega) ?_
                      intro v' w9 hown2 hgrow hloc
                      go_wp2
                      go_roundw
                      case rel => exact ⟨k + 1, M3 + 1, by omega, by go_num, rfl, HM4, by rw [Htk.out]; exact hown2, (((hF2.trans0 hfX).drew).alloc _).grown hgrow (fun x hx => .inr (hub x hx))⟩
                      case measure => simp [intOf]; omega
                  | true =>
                    obtain ⟨H, hqH, hHm⟩ := has_host (m := n.length) hh
                    simp only at hqH
                    subst hqH
                    rw [hh, Int.toNat_natCast, hcg H hHm] at eO
                    rw [hh] at kH
                    simp only [h0, decide_true, Bool.and_true, Bool.true_and] at eO
                    have hkr := fun w' hf => kN (H : Int) w' hf
                    clear hcg kN
                    have h1 : ((i : Int) == 0) = true := by simp; omega
                    clear h0
                    generalize wz (rc1 (n.length : Int) (H : Int) fs) = y at *
                    go_wp2_with fail
                    refine kH.mono ?_
                    rintro e w3 ⟨rfl, hf3⟩
                    have hf03 := hf01.trans0 hf3
                    replace Bt := Bt.fr0 hf3
                    clear ct ft lt
                    have ct := Bt.cell
                    have hkr3 := hkr w3 ((hFw.trans0 hF2).trans0 hf03)
                    clear hkr
                    go_wp2_with fail
                    refine hkr3.mono ?_
                    rintro e w4 ⟨rfl, hf4⟩
                    have hf04 := hf03.trans0 hf4
                    replace Bt := Bt.fr0 hf4
                    clear ct hkr3
                    have ct := Bt.cell
                    have ft := Bt.frozen
                    have lt := Bt.lt
                    by_cases hy : y = 1
                    · subst hy
                      simp only [show ((1 : Int) == 1) = true from rfl] at eO
                      rw [eO] at eF
                      subst eF
                      go_wp2_with fail
                      have hfX : Fr [] wr (w4.setCell ⟨wr.heap.size, 2, none⟩ (.bool true)) := hf04.setCell (.inr (by simp)) _
                      have BtX : Blk (w4.setCell ⟨wr.heap.size, 2, none⟩ (.bool true)) wr.heap.size [.int .i64 p, .int .i64 (H : Int), .bool true] 44 := Bt.setCell 2 (.bool true)
                      generalize hwx : (w4.setCell ⟨wr.heap.size, 2, none⟩ (.bool true)) = wx at *
                      try rw [hwx]
                      clear hwx
                      clear ct ft
                      have hownx := owns_fr hown hfX (by simp)
                      have hzx := hfX.size
                      refine wp_region_G (Fr [] wx.drew) [(true, 0), (true, 1), (true, 2), (true, 3), (true, 4), (true, 5), (true, 6), (true, 7), (true, 8)] (by as_aux_lemma => kernel_rfl) (by as_aux_lemma => kernel_rfl) (Fr.refl _ _) ?_
                      simp only [inOrder, List.map_cons, List.map_nil, List.getD_cons_zero, List.getD_cons_succ]
                      refine wpG_val (.agg #[.int .i64 (p), .int .i64 ((H : Int)), .bool true]) (by first | rfl | go_simp) (fun X hX => by have cc := ((Blk.drew BtX).fr0 hX).cell; go_simp) ?_
                      simp only [Act.put, List.setIfInBounds_toArray, List.set_cons_zero, List.set_cons_succ]
                      iterate 3
                        refine wpG_pure fun K hK => ?_
                        go_simp
                        refine hK _ ?_
                        clear hK K
                      refine wpG_val (.slice (some ⟨b3, off3, none⟩) l.length cap2) (by first | rfl | go_simp) (fun X hX => by obtain ⟨e0, e1, e2, e3⟩ := hcells X (hfX.drew.trans0 hX); go_simp) ?_
                      simp only [Act.put, List.setIfInBounds_toArray, List.set_cons_zero, List.set_cons_succ]
                      iterate 2
                        refine wpG_pure fun K hK => ?_
                        go_simp
                        refine hK _ ?_
                        clear hK K
                      refine wpG_val (.agg #[.int .i64 p, .int .i64 (H : Int), .bool r]) (by first | rfl | go_simp) (fun X hX => by obtain ⟨e0, e1, e2, e3⟩ := hcells X (hfX.drew.trans0 hX); go_simp) ?_
                      simp only [Act.put, List.setIfInBounds_toArray, List.set_cons_zero, List.set_cons_succ]
                      iterate 1
                        refine wpG_pure fun K hK => ?_
                        go_simp
                        refine hK _ ?_
                        clear hK K
                      refine wpG_end ?_
                      generalize sEq ((p), ((H : Int)), true) (p, (H : Int), r) = B at *
                      have ctx := (Blk.drew BtX).cell
                      clear hcells
                      cases B with
                      | true =>
                        have HM4 : Hid (M3 = M + cntTo (chgAt fs hs) (T + (k + 1))) := hidIt (by rw [← Nat.add_assoc, Hcn.out, Hch.out]; simp; rw [HM3.out])
                        clear Hcn Hch HM3 Hrow Hfin
                        go_wp2_with (at_builtin; refine Hid.out ?_)
                        refine hidIt ?_
                        refine wpList_append1W 42 44 _ 3 24 Try.underlying42 infoSlotR rfl (by decide) rfl _ _ rfl wo.heap.size u12 _ _ rfl ((owns_drew hownx).alloc _) (slotC ((p), ((H : Int)), true)) rfl slot_one wx.heap.size rfl (Blk.new' (by simp) _ _) (by omega) (by unfold maxLen; omega) (by simp; omega) ?_
                        intro v' w9 hown2 hgrow hloc
                        go_wp2
                        go_roundw
                        case rel => exact ⟨k + 1, M3, by omega, by go_num, rfl, HM4, by rw [Htk.out]; exact hown2, (((hF2.trans0 hfX).drew).alloc _).grown hgrow (fun x hx => .inr (hub x hx))⟩
                        case measure => simp [intOf]; omega
                      | false =>
                        have HM4 : Hid (M3 + 1 = M + cntTo (chgAt fs hs) (T + (k + 1))) := hidIt (by rw [← Nat.add_assoc, Hcn.out, Hch.out]; simp; rw [HM3.out]; omega)
                        clear Hcn Hch HM3 Hrow Hfin
                        go_wp2_with (at_builtin; refine Hid.out ?_)
                        refine hidIt ?_
                        refine wpList_append1W 42 44 _ 3 24 Try.underlying42 infoSlotR rfl (by decide) rfl _ _ rfl wo.heap.size u12 _ _ rfl ((owns_drew hownx).alloc _) (slotC ((p), ((H : Int)), true)) rfl slot_one wx.heap.size rfl (Blk.new' (by simp) _ _) (by omega) (by unfold maxLen; omega) (by simp; omega) ?_
                        intro v' w9 hown2 hgrow hloc
                        go_wp2
                        go_roundw
                        case rel => exact ⟨k + 1, M3 + 1, by omega, by go_num, rfl, HM4, by rw [Htk.out]; exact hown2, (((hF2.trans0 hfX).drew).alloc _).grown hgrow (fun x hx => .inr (hub x hx))⟩
                        case measure => simp [intOf]; omega
                    · have hyb : ((y : Int) == 1) = false := by simp; omega
                      rw [hyb] at eO
                      rw [eO] at eF
                      subst eF
                      go_wp2_with fail
                      have hfX : Fr [] wr (w4.setCell ⟨wr.heap.size, 2, none⟩ (.bool false)) := hf04.setCell (.inr (by simp)) _
                      have BtX : Blk (w4.setCell ⟨wr.heap.size, 2, none⟩ (.bool false)) wr.heap.size [.int .i64 p, .int .i64 (H : Int), .bool false] 44 := Bt.setCell 2 (.bool false)
                      generalize hwx : (w4.setCell ⟨wr.heap.size, 2, none⟩ (.bool false)) = wx at *
                      try rw [hwx]
                      clear hwx
                      clear ct ft
                      have hownx := owns_fr hown hfX (by simp)
                      have hzx := hfX.size
                      refine wp_region_G (Fr [] wx.drew) [(true, 0), (true, 1), (true, 2), (true, 3), (true, 4), (true, 5), (true, 6), (true, 7), (true, 8)] (by as_aux_lemma => kernel_rfl) (by as_aux_lemma => kernel_rfl) (Fr.refl _ _) ?_
                      simp only [inOrder, List.map_cons, List.map_nil, List.getD_cons_zero, List.getD_cons_succ]
                      refine wpG_val (.agg #[.int .i64 (p), .int .i64 ((H : Int)), .bool false]) (by first | rfl | go_simp) (fun X hX => by have cc := ((Blk.drew BtX).fr0 hX).cell; go_simp) ?_
                      simp only [Act.put, List.setIfInBounds_toArray, List.set_cons_zero, List.set_cons_succ]
                      iterate 3
                        refine wpG_pure fun K hK => ?_
                        go_simp
                        refine hK _ ?_
                        clear hK K
                      refine wpG_val (.slice (some ⟨b3, off3, none⟩) l.length cap2) (by first | rfl | go_simp) (fun X hX => by obtain ⟨e0, e1, e2, e3⟩ := hcells X (hfX.drew.trans0 hX); go_simp) ?_
                      simp only [Act.put, List.setIfInBounds_toArray, List.set_cons_zero, List.set_cons_succ]
                      iterate 2
                        refine wpG_pure fun K hK => ?_
                        go_simp
                        refine hK _ ?_
                        clear hK K
                      refine wpG_val (.agg #[.int .i64 p, .int .i64 (H : Int), .bool r]) (by first | rfl | go_simp) (fun X hX => by obtain ⟨e0, e1, e2, e3⟩ := hcells X (hfX.drew.trans0 hX); go_simp) ?_
                      simp only [Act.put, List.setIfInBounds_toArray, List.set_cons_zero, List.set_cons_succ]
                      iterate 1
                        refine wpG_pure fun K hK => ?_
                        go_simp
                        refine hK _ ?_
                        clear hK K
                      refine wpG_end ?_
                      generalize sEq ((p), ((H : Int)), false) (p, (H : Int), r) = B at *
                      have ctx := (Blk.drew BtX).cell
                      clear hcells
                      cases B with
                      | true =>
                        have HM4 : Hid (M3 = M + cntTo (chgAt fs hs) (T + (k + 1))) := hidIt (by rw [← Nat.add_assoc, Hcn.out, Hch.out]; simp; rw [HM3.out])
                        clear Hcn Hch HM3 Hrow Hfin
                        go_wp2_with (at_builtin; refine Hid.out ?_)
                        refine hidIt ?_
                        refine wpList_append1W 42 44 _ 3 24 Try.underlying42 infoSlotR rfl (by decide) rfl _ _ rfl wo.heap.size u12 _ _ rfl ((owns_drew hownx).alloc _) (slotC ((p), ((H : Int)), false)) rfl slot_one wx.heap.size rfl (Blk.new' (by simp) _ _) (by omega) (by unfold maxLen; omega) (by simp; omega) ?_
                        intro v' w9 hown2 hgrow hloc
                        go_wp2
                        go_roundw
                        case rel => exact ⟨k + 1, M3, by omega, by go_num, rfl, HM4, by rw [Htk.out]; exact hown2, (((hF2.trans0 hfX).drew).alloc _).grown hgrow (fun x hx => .inr (hub x hx))⟩
                        case measure => simp [intOf]; omega
                      | false =>
                        have HM4 : Hid (M3 + 1 = M + cntTo (chgAt fs hs) (T + (k + 1))) := hidIt (by rw [← Nat.add_assoc, Hcn.out, Hch.out]; simp; rw [HM3.out]; omega)
                        clear Hcn Hch HM3 Hrow Hfin
                        go_wp2_with (at_builtin; refine Hid.out ?_)
                        refine hidIt ?_
                        refine wpList_append1W 42 44 _ 3 24 Try.underlying42 infoSlotR rfl (by decide) rfl _ _ rfl wo.heap.size u12 _ _ rfl ((owns_drew hownx).alloc _) (slotC ((p), ((H : Int)), false)) rfl slot_one wx.heap.size rfl (Blk.new' (by simp) _ _) (by omega) (by unfold maxLen; omega) (by simp; omega) ?_
                        intro v' w9 hown2 hgrow hloc
                        go_wp2
                        go_roundw
                        case rel => exact ⟨k + 1, M3 + 1, by omega, by go_num, rfl, HM4, by rw [Htk.out]; exact hown2, (((hF2.trans0 hfX).drew).alloc _).grown hgrow (fun x hx => .inr (hub x hx))⟩
                        case measure => simp [intOf]; omega
                · have h1 : ((i : Int) == 0) = false := by simp; omega
                  simp only [h0, decide_false, Bool.and_false, Bool.false_and] at eO
                  rw [eO] at eF
                  subst eF
                  go_wp2_with fail
                  have hfX : Fr [] wr (w1.setCell ⟨wr.heap.size, 2, none⟩ (.bool false)) := hf01.setCell (.inr (by simp)) _
                  have BtX : Blk (w1.setCell ⟨wr.heap.size, 2, none⟩ (.bool false)) wr.heap.size [.int .i64 p, .int .i64 q, .bool false] 44 := Bt.setCell 2 (.bool false)
                  generalize hwx : (w1.setCell ⟨wr.heap.size, 2, none⟩ (.bool false)) = wx at *
                  try rw [hwx]
                  clear hwx
                  clear ct ft
                  have hownx := owns_fr hown hfX (by simp)
                  have hzx := hfX.size
                  refine wp_region_G (Fr [] wx.drew) [(true, 0), (true, 1), (true, 2), (true, 3), (true, 4), (true, 5), (true, 6), (true, 7), (true, 8)] (by as_aux_lemma => kernel_rfl) (by as_aux_lemma => kernel_rfl) (Fr.refl _ _) ?_
                  simp only [inOrder, List.map_cons, List.map_nil, List.getD_cons_zero, List.getD_cons_succ]
                  refine wpG_val (.agg #[.int .i64 (p), .int .i64 (q), .bool false]) (by first | rfl | go_simp) (fun X hX => by have cc := ((Blk.drew BtX).fr0 hX).cell; go_simp) ?_
                  simp only [Act.put, List.setIfInBounds_toArray, List.set_cons_zero, List.set_cons_succ]
                  iterate 3
                    refine wpG_pure fun K hK => ?_
                    go_simp
                    refine hK _ ?_
                    clear hK K
                  refine wpG_val (.slice (some ⟨b3, off3, none⟩) l.length cap2) (by first | rfl | go_simp) (fun X hX => by obtain ⟨e0, e1, e2, e3⟩ := hcells X (hfX.drew.trans0 hX); go_simp) ?_
                  simp only [Act.put, List.setIfInBounds_toArray, List.set_cons_zero, List.set_cons_succ]
                  iterate 2
                    refine wpG_pure fun K hK => ?_
                    go_simp
                    refine hK _ ?_
                    clear hK K
                  refine wpG_val (.agg #[.int .i64 p, .int .i64 q, .bool r]) (by first | rfl | go_simp) (fun X hX => by obtain ⟨e0, e1, e2, e3⟩ := hcells X (hfX.drew.trans0 hX); go_simp) ?_
                  simp only [Act.put, List.setIfInBounds_toArray, List.set_cons_zero, List.set_cons_succ]
                  iterate 1
                    refine wpG_pure fun K hK => ?_
                    go_simp
                    refine hK _ ?_
                    clear hK K
                  refine wpG_end ?_
                  generalize sEq ((p), (q), false) (p, q, r) = B at *
                  have ctx := (Blk.drew BtX).cell
                  clear hcells
                  cases B with
                  | true =>
                    have HM4 : Hid (M3 = M + cntTo (chgAt fs hs) (T + (k + 1))) := hidIt (by rw [← Nat.add_assoc, Hcn.out, Hch.out]; simp; rw [HM3.out])
                    clear Hcn Hch HM3 Hrow Hfin
                    go_wp2_with (at_builtin; refine Hid.out ?_)
                    refine hidIt ?_
                    refine wpList_append1W 42 44 _ 3 24 Try.underlying42 infoSlotR rfl (by decide) rfl _ _ rfl wo.heap.size u12 _ _ rfl ((owns_drew hownx).alloc _) (slotC ((p), (q), false)) rfl slot_one wx.heap.size rfl (Blk.new' (by simp) _ _) (by omega) (by unfold maxLen; omega) (by simp; omega) ?_
                    intro v' w9 hown2 hgrow hloc
                    go_wp2
                    go_roundw
                    case rel => exact ⟨k + 1, M3, by omega, by go_num, rfl, HM4, by rw [Htk.out]; exact hown2, (((hF2.trans0 hfX).drew).alloc _).grown hgrow (fun x hx => .inr (hub x hx))⟩
                    case measure => simp [intOf]; omega
                  | false =>
                    have HM4 : Hid (M3 + 1 = M + cntTo (chgAt fs hs) (T + (k + 1))) := hidIt (by rw [← Nat.add_assoc, Hcn.out, Hch.out]; simp; rw [HM3.out]; omega)
                    clear Hcn Hch HM3 Hrow Hfin
                    go_wp2_with (at_builtin; refine Hid.out ?_)
                    refine hidIt ?_
                    refine wpList_append1W 42 44 _ 3 24 Try.underlying42 infoSlotR rfl (by decide) rfl _ _ rfl wo.heap.size u12 _ _ rfl ((owns_drew hownx).alloc _) (slotC ((p), (q), false)) rfl slot_one wx.heap.size rfl (Blk.new' (by simp) _ _) (by omega) (by unfold maxLen; omega) (by simp; omega) ?_
                    intro v' w9 hown2 hgrow hloc
                    go_wp2
                    go_roundw
                    case rel => exact ⟨k + 1, M3 + 1, by omega, by go_num, rfl, HM4, by rw [Htk.out]; exact hown2, (((hF2.trans0 hfX).drew).alloc _).grown hgrow (fun x hx => .inr (hub x hx))⟩
                    case measure => simp [intOf]; omega
            · have hke : k = l.length := by omega
              subst hke
              have c0w := (World.cell?_of_block (hF2.block b hb (by simp))).trans c0
              have hM4 := hMd.fr hF2 (by simp)
              have hF3 := hF1.trans0 hF2
              have hLt : L.take l.length = L := List.take_of_length_le (by rw [Hli.out]; exact Nat.le_refl _)
              rw [hLt] at hown
              have hsx : SlS wr u12 L := SlF.of_owns (by rw [Hli.out]; exact hown)
              have hxb : ∀ b, u12.ownBlock = some b → b < wr.heap.size ∧ u10.ownBlock ≠ some b := fun b hb => ⟨(hown.lt b hb).2, fun h3 => by have := (hMd.lt b h3).2; have := (hown.lt b hb).1; omega⟩
              have hub := fun x hx => (hMd.lt x hx).1
              have hsz := hF3.size
              have hszA := hF.size
              obtain ⟨ax, capx, hxe, _, _, _⟩ := hsx.open
              rw [Hli.out] at hxe
              subst hxe
              obtain ⟨vs, hV⟩ := hM4
              clear hown hMd hLt
              go_wp2_with (at_builtin; refine wpList_append1W 23 42 (.slice none 0 0) 1 24 Try.underlying23 infoRowR rfl (by decide) rfl _ _ rfl wA.heap.size _ _ vs rfl (hV.1.alloc _) [.slice ax l.length capx] rfl (by intro u hu; simp at hu; subst hu; rfl) wr.heap.size rfl (Blk.new _ _ _) (by omega) (by unfold maxLen; omega) (by simp; omega) ?_; intro v' w3 hown3 hgrow hloc)
              go_wp2
              go_roundw
              case rel => exact ⟨i + 1, M3, by omega, by go_num, rfl, hidIt (by rw [Hsum.out]; exact HM3.out), by rw [Hst.out]; exact (hV.fr ((Fr.refl [] _).alloc _) (by simp)).snoc hown3 hgrow hloc (SlF.fr0 hsx ((Fr.refl [] _).alloc _)) (fun b hb => ⟨by have := (hxb b hb).1; simp; omega, (hxb b hb).2⟩), (hF3.alloc _).grown hgrow (fun x hx => .inr (by have := hub x hx; omega))⟩
              case measure => simp [intOf]; omega
        · have hie : i = ls.length := by omega
          subst hie
          have hsum : ((ls.take ls.length).map List.length).sum = fs.length := by rw [List.take_length, ← hfs, List.length_flatten]
          have HM5 : Hid (M2 = cntTo (diffAt n C) n.length + cntTo (chgAt fs hs) fs.length) := hidIt (by rw [HM2.out, HM.out, hsum])
          rw [List.take_of_length_le (by rw [hRll]; exact Nat.le_refl _)] at hMd
          clear hslot hsum HM2 HM
          go_wp2
          refine bodyPost_ret (v := .tuple #[u8, u10, .int .i64 (wz M2)]) (by simp [results, Try.results16, go_sem]) rfl ⟨u8, u10, by rw [hfs, hCC, ← HM5.out], by rw [hfs, hCC]; exact SlF.fr0 sC hF1, hMd.slr, hFw⟩
end Go.Proofs.Ytmbbmombhkaeoaa
