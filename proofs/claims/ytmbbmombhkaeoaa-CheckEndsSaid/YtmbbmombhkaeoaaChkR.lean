/-
  ref19.Repair.
-/
import Derived.Test.YtmbbmombhkaeoaaCheckEnds
import Derived.BigQuiet
namespace Go.Proofs.Ytmbbmombhkaeoaa
open Go.RowKit Go.Maps
attribute [local go_sem] Oper.semAt_some
attribute [local go_sem high] equalSlot0 equalSlotR0

theorem rc1_pred {m h : Int} : ∀ (a b : List Slt), a.length = b.length → (∀ k, k < a.length → (hasS (a.getD k zS) m && decide ((a.getD k zS).2.1 = h)) = (hasS (b.getD k zS) m && decide ((b.getD k zS).2.1 = h))) → rc1 m h a = rc1 m h b
  | [], [], _, _ => rfl
  | [], _ :: _, hl, _ => by simp at hl
  | _ :: _, [], hl, _ => by simp at hl
  | x :: a, y :: b, hl, hk => by
    have h0 := hk 0 (by simp)
    have ih := rc1_pred (m := m) (h := h) a b (by simpa using hl) (fun k hk' => by have := hk (k + 1) (by simpa using hk'); simpa using this)
    simp only [List.getD_cons_zero] at h0
    have e1 : rc1 m h (x :: a) = rc1 m h [x] + rc1 m h a := rc1_append m h [x] a
    have e2 : rc1 m h (y :: b) = rc1 m h [y] + rc1 m h b := rc1_append m h [y] b
    rw [e1, e2, ih]
    congr 1
    simp only [rc1, List.filter_cons, List.filter_nil, h0]
    split <;> rfl
theorem has_not_bad {s : Slt} {N : Nat} (h : badS s (N : Int) = true) : hasS s (N : Int) = false := by
  cases hh : hasS s (N : Int) with
  | false => rfl
  | true => rw [has_bad hh] at h; cases h
theorem gs_rc (N : Nat) (fs : List Slt) : rcL N (gsOf N fs) = rcL N fs := by
  unfold rcL
  apply List.map_congr_left
  intro i _
  suffices key : rc1 (N : Int) (i : Int) (gsOf N fs) = rc1 (N : Int) (i : Int) fs by rw [key]
  refine rc1_pred _ _ (gs_length N fs) fun k hk => ?_
  rw [gs_length] at hk
  rw [gs_at N fs hk]
  unfold fix1
  cases hb : badS (fs.getD k zS) (N : Int) with
  | false => rfl
  | true => rw [has_not_bad hb]; rfl
/-- is slot m turned? -/
def chgAt (fs hs : List Slt) (m : Nat) : Bool := !sEq (hs.getD m zS) (fs.getD m zS)
theorem cntTo_add {p q r : Nat → Bool} {m : Nat} (h : ∀ k, k < m → (p k = (q k || r k)) ∧ (q k && r k) = false) : cntTo p m = cntTo q m + cntTo r m := by
  induction m with
  | zero => rfl
  | succ m ih =>
    rw [cntTo_succ, cntTo_succ, cntTo_succ, ih (fun k hk => h k (by omega))]
    obtain ⟨h1, h2⟩ := h m (by omega)
    rw [h1]
    cases hq : q m <;> cases hr : r m <;> simp_all <;> omega
theorem chg_count (N l0 : Nat) (fs : List Slt) : cntTo (chgAt fs (hsOf N l0 fs)) fs.length = cntTo (badAt N fs) fs.length + cntTo (turn2 N l0 (rcL N (gsOf N fs)) (gsOf N fs)) fs.length := by
  refine cntTo_add fun k hk => ?_
  unfold chgAt badAt turn2
  rw [hs_at N l0 fs hk, gs_at N fs hk]
  have hnb := hs_not N l0 fs hk
  rw [hs_at N l0 fs hk, gs_at N fs hk] at hnb
  generalize rcL N (gsOf N fs) = c at *
  generalize fs.getD k zS = s at *
  cases hb : badS s (N : Int) with
  | true =>
    have e1 : fix1 N s = zS := by unfold fix1; rw [hb]; rfl
    have e2 : hasS zS (N : Int) = false := rfl
    have e3 : own2 N l0 c k zS = false := by unfold own2; rw [e2]; rfl
    rw [e1] at hnb ⊢
    constructor
    · cases hq : sEq (fix2 N l0 c k zS) s with
      | false => rfl
      | true => rw [(sEq_iff _ _).1 hq] at hnb; rw [hnb] at hb; cases hb
    · rw [e3]; rfl
  | false =>
    have e1 : fix1 N s = s := by unfold fix1; rw [hb]; rfl
    rw [e1]
    refine ⟨?_, rfl⟩
    obtain ⟨p, q, r⟩ := s
    unfold fix2
    simp only [Bool.false_or]
    generalize own2 N l0 c k (p, q, r) = o
    cases o <;> cases r <;> simp [sEq]
theorem plain_row0 {ls : List (List Slt)} {i k : Nat} (hi : i < ls.length) (hk : k < (ls.getD i []).length) : (i = 0 ↔ ((ls.take i).map List.length).sum + k < len0 ls) := by
  cases ls with
  | nil => simp at hi
  | cons l ls =>
    cases i with
    | zero => simp only [List.getD_cons_zero] at hk; simp [len0]; exact hk
    | succ i => simp [len0]; omega
theorem sum_take_succ {ls : List (List Slt)} {i : Nat} (hi : i < ls.length) : ((ls.take (i + 1)).map List.length).sum = ((ls.take i).map List.length).sum + (ls.getD i []).length := by
  have hg : ls[i] = ls.getD i [] := by rw [List.getD_eq_getElem?_getD, List.getElem?_eq_getElem hi]; rfl
  rw [List.take_succ_eq_append_getElem hi, hg, List.map_append, List.sum_append]
  simp
set_option maxRecDepth 100000 in
set_option maxHeartbeats 6400000 in
theorem rRepair_calls (v u : Value) (n : List Int) (ls R : List (List Slt)) (w : World) (hv : SlI w v n) (hu : SlR w u ls) (ht : tot ls ≤ 1048576) (hn : n.length ≤ 1048576) (hRl : R.map List.length = ls.map List.length)
    (hRf : R.flatten = hsOf n.length (len0 ls) ls.flatten) : Calls Try.prog 16 #[v, u] w fun e w' => ∃ v0 v1, e = .returned (.tuple #[v0, v1, .int .i64 ((cntTo (diffAt n (rcL n.length ls.flatten)) n.length + cntTo (chgAt ls.flatten (hsOf n.length (len0 ls) ls.flatten)) ls.flatten.length : Nat) : Int)]) ∧
      SlI w' v0 (rcL n.length ls.flatten) ∧ SlR w' v1 R ∧ Fr [] w w' := by
  obtain ⟨an, capn, rfl, hlcn, hcmn, _⟩ := hv.open
  obtain ⟨a', cap', rfl, hlc', hcm'⟩ := hu.open
  unfold maxLen at hcm' hcmn
  have htl := tot_len ls
  have htf := flatten_len ls
  have hcl := rcL_length n.length ls.flatten
  have hcg : ∀ j, j < n.length → (rcL n.length ls.flatten).getD j 0 = ((rc1 (n.length : Int) (j : Int) ls.flatten : Nat) : Int) := fun j hj => rcL_getD _ hj
  have hrcb : ∀ h, rc1 (n.length : Int) h ls.flatten ≤ 1048576 := fun h => Nat.le_trans (rc1_le _ _ _) (by omega)
  have kR := fun (h : Int) (w' : World) (hf : Fr [] w w') => Refs_calls (n.length : Int) h (.slice a' ls.length cap') ls w' (hu.fr0 hf) ht
  unfold rc at kR
  have hlen : ∀ i, (R.getD i []).length = (ls.getD i []).length := lens_at hRl
  have hRll : R.length = ls.length := by have := congrArg List.length hRl; simpa using this
  have hslot : ∀ i k, i < ls.length → k < (ls.getD i []).length → (ls.getD i []).getD k zS = ls.flatten.getD (((ls.take i).map List.length).sum + k) zS ∧ (R.getD i []).getD k zS = fix2 n.length (len0 ls) (rcL n.length ls.flatten) (((ls.take i).map List.length).sum + k) (fix1 n.length (ls.flatten.getD (((ls.take i).map List.length).sum + k) zS)) ∧
      (R.getD i []).getD k zS = (hsOf n.length (len0 ls) ls.flatten).getD (((ls.take i).map List.length).sum + k) zS ∧ ((ls.take i).map List.length).sum + k < ls.flatten.length ∧ (i = 0 ↔ ((ls.take i).map List.length).sum + k < len0 ls) := fun i k hi hk => by
    have e1 := flat_get ls i k hi hk
    have e2 := flat_get R i k (by rw [hRll]; exact hi) (by rw [hlen]; exact hk)
    have hlt := flat_lt ls i k hi hk
    rw [lens_take hRl, hRf] at e2
    refine ⟨e1.symm, ?_, e2.symm, hlt, plain_row0 hi hk⟩
    rw [← e2, hs_at n.length (len0 ls) ls.flatten hlt, gs_at n.length ls.flatten hlt, gs_rc]
  generalize hsOf n.length (len0 ls) ls.flatten = hs at *
  have hC1 := cntTo_le (diffAt n (rcL n.length ls.flatten)) n.length
  go_enter Try.func16, Try.ntmps16
  go_wp2
  go_loopw [7, 8, 9] (fun ch x i wr => ∃ j M : Nat, j ≤ n.length ∧ i = .int .i64 j ∧ ch = .int .i64 (M : Int) ∧ Hid (M = cntTo (diffAt n (rcL n.length ls.flatten)) j) ∧ wr.ownsRow w.heap.size 3 1 x j (((rcL n.length ls.flatten).take j).flatMap intC) ∧ Fr [] w wr) (fun _ _ i _ => n.length - (intOf i).toNat)
  case atStart => exact ⟨0, 0, Nat.zero_le _, rfl, rfl, hidIt rfl, World.ownsRow_nil _ _ _ _, Fr.refl _ _⟩
  case round =>
    obtain ⟨j, M, hj, rfl, rfl, HM, hown, hF⟩ := hrel
    by_cases hlt : j < n.length
    · have hcj := hcg j hlt
      have Htk : Hid ((rcL n.length ls.flatten).take (j + 1) = (rcL n.length ls.flatten).take j ++ [(rcL n.length ls.flatten).getD j 0]) := hidIt (take_succ_getD 0 (by rw [hcl]; exact hlt))
      have Hcn := hidIt (cntTo_succ (diffAt n (rcL n.length ls.flatten)) j)
      have Hd : Hid (diffAt n (rcL n.length ls.flatten) j = (n.getD j 0 != (rcL n.length ls.flatten).getD j 0)) := hidIt rfl
      have hcb := cntTo_le (diffAt n (rcL n.length ls.flatten)) j
      have hMb : M ≤ 1048576 := by rw [HM.out]; omega
      have hkr := kR (j : Int) wr hF
      have hrb := hrcb (j : Int)
      rw [hcj] at Htk Hd
      have hxs : ((((rcL n.length ls.flatten).take j ++ [((rc1 (n.length : Int) (j : Int) ls.flatten : Nat) : Int)]).flatMap intC))[j]? = some (.int .i64 ((rc1 (n.length : Int) (j : Int) ls.flatten : Nat) : Int)) := by
        rw [flatI_at, List.getElem?_append_right (by rw [List.length_take, hcl]; omega)]
        rw [List.length_take, hcl, Nat.min_eq_left hj]
        simp
      have hub := own_base hown
      clear hslot kR hcg hrcb hcj hcb
      generalize rc1 (n.length : Int) (j : Int) ls.flatten = y at *
      generalize (rcL n.length ls.flatten).take j = done at *
      go_wp2_with fail
      refine hkr.mono ?_
      rintro e w1 ⟨rfl, hf1⟩
      have hown1 := owns_fr hown hf1 (by simp)
      have hF1 := hF.trans0 hf1
      have hz1 := hF1.size
      clear hkr hown
      go_wp2_with (at_builtin; refine Hid.out ?_)
      refine hidIt ?_
      refine wpList_append1 22 3 (.int .i64 0) 1 8 Try.underlying22 infoInt rfl (by decide) (by decide) rfl _ _ rfl w.heap.size u8 _ _ rfl (hown1.alloc _) (intC (y : Int)) rfl int_one w1.heap.size rfl (Blk.new w1 [_] _) (by omega) (by simp; omega) ?_
      intro v' w2 hown2 hgrow hloc
      have hF2 := (hF1.alloc (.cells #[.int .i64 (y : Int)] 3)).grown hgrow (fun x hx => .inr (hub x hx))
      replace hown2 : w2.ownsRow w.heap.size 3 1 v' (j + 1) ((done ++ [(y : Int)]).flatMap intC) := by rw [List.flatMap_append]; simpa using hown2
      obtain ⟨g, cg, rfl, _, _⟩ := owns_succ hown2 (by omega)
      have cgj := (owns_at hown2 hxs).1
      obtain ⟨bn, on, rfl, hbn, en⟩ := SlI.at (SlF.fr0 hv hF2 : SlI _ _ _) hlt
      generalize n.getD j 0 = x at *
      have hxb : (x != (y : Int)) = !decide (x = (y : Int)) := by simp only [bne]; congr 1
      rw [hxb] at Hd
      have hjn : (j : Int) < n.length := by omega
      have hj0 : (0 : Int) ≤ j := by omega
      go_wp2_with fail
      go_quiet (fail)
      generalize decide (x = (y : Int)) = B at *
      cases B with
      | true =>
        have hM6 : Hid (M = cntTo (diffAt n (rcL n.length ls.flatten)) (j + 1)) := hidIt (by rw [Hcn.out, Hd.out]; simp; exact HM.out)
        clear Hcn Hd HM
        go_wp2
        go_roundw
        case rel => exact ⟨j + 1, M, by omega, by go_num, rfl, hM6, by rw [Htk.out]; repeat (first | exact hown2 | apply owns_drewN | apply owns_drew), by repeat (first | exact hF2 | apply Fr.drew | apply Fr.drewN)⟩
        case measure => simp [intOf]; omega
      | false =>
        have hM6 : Hid (M + 1 = cntTo (diffAt n (rcL n.length ls.flatten)) (j + 1)) := hidIt (by rw [Hcn.out, Hd.out]; simp; exact HM.out)
        clear Hcn Hd HM
        go_wp2
        go_roundw
        case rel => exact ⟨j + 1, M + 1, by omega, by go_num, by go_num, hM6, by rw [Htk.out]; repeat (first | exact hown2 | apply owns_drewN | apply owns_drew), by repeat (first | exact hF2 | apply Fr.drew | apply Fr.drewN)⟩
        case measure => simp [intOf]; omega
    · have hje : j = n.length := by omega
      subst hje
      rw [List.take_of_length_le (by rw [hcl]; exact Nat.le_refl _)] at hown
      have sC : SlI wr u8 (rcL n.length ls.flatten) := SlF.of_owns (by rw [hcl]; exact hown)
      generalize hCC : rcL n.length ls.flatten = C at *
      have hM1 : M ≤ 1048576 := by rw [HM.out]; exact Nat.le_trans hC1 hn
      generalize hfs : ls.flatten = fs at *
      have hfl : fs.length ≤ 1048576 := by omega
      have kN := kR
      clear kR hown hj hlt hC1 hcl
      generalize wr = wA at *
      go_wp2_with fail
      go_loopw [7, 10, 11] (fun ch x i wr => ∃ j M2 : Nat, j ≤ ls.length ∧ i = .int .i64 j ∧ ch = .int .i64 (M2 : Int) ∧ Hid (M2 = M + cntTo (chgAt fs hs) ((ls.take j).map List.length).sum) ∧ MadeR wr wA.heap.size 42 x (R.take j) ∧ Fr [] wA wr) (fun _ _ i _ => ls.length - (intOf i).toNat)
      case atStart => exact ⟨0, M, Nat.zero_le _, rfl, rfl, hidIt rfl, MadeR.nil _ _ _, Fr.refl _ _⟩
      case round =>
        obtain ⟨i, M2, hi, rfl, rfl, HM2, hMd, hF1⟩ := hrel
        have hFw := hF.trans0 hF1
        by_cases hlt : i < ls.length
        · obtain ⟨b, off, a2, cap2, rfl, hb, c0, hs2, hm2⟩ := SlR.at (hu.fr0 hFw) hlt
          have Hst : Hid (R.take (i + 1) = R.take i ++ [R.getD i []]) := hidIt (take_succ_getD [] (by rw [hRll]; exact hlt))
          have hdl : (R.take i).length ≤ 1048576 := by rw [List.length_take]; omega
          have hsl := fun k => hslot i k hlt
          have Hsum := hidIt (sum_take_succ hlt)
          have Hli := hidIt (hlen i)
          have hTl : ((ls.take i).map List.length).sum + (ls.getD i []).length ≤ 1048576 := by
            by_cases h0 : (ls.getD i []).length = 0
            · rw [h0, Nat.add_zero]
              have : ((ls.take i).map List.length).sum ≤ fs.length := by
                rw [← hfs, List.length_flatten]
                conv => rhs; rw [← List.take_append_drop i ls, List.map_append, List.sum_append]
                omega
              omega
            · have := (hslot i ((ls.getD i []).length - 1) hlt (by omega)).2.2.2.1
              omega
          clear hslot hlen
          generalize R.take i = done at *
          generalize ls.getD i [] = l at *
          generalize R.getD i [] = L at *
          generalize ((ls.take i).map List.length).sum = T at *
          have hll' : l.length ≤ 1048576 := by omega
          generalize wr = wo at *
          have hi' : (i : Int) < ls.length := by omega
          have hi0 : (0 : Int) ≤ i := by omega
          have hMb : M2 ≤ 4194304 := by
            have := cntTo_le (chgAt fs hs) T
            rw [HM2.out]; omega
          go_wp2_with fail
          go_loopw [7, 12, 13] (fun ch x j wr => ∃ k M3 : Nat, k ≤ l.length ∧ j = .int .i64 k ∧ ch = .int .i64 (M3 : Int) ∧ Hid (M3 = M + cntTo (chgAt fs hs) (T + k)) ∧ wr.ownsRow wo.heap.size 44 3 x k ((L.take k).flatMap slotC) ∧ Fr [] wo wr) (fun _ _ j _ => l.length - (intOf j).toNat)
          case atStart => exact ⟨0, M2, Nat.zero_le _, rfl, rfl, hidIt HM2.out, World.ownsRow_nil _ _ _ _, Fr.refl _ _⟩
          case round =>
            obtain ⟨k, M3, hk, rfl, rfl, HM3, hown, hF2⟩ := hrel
            by_cases hkl : k < l.length
            · obtain ⟨b3, off3, rfl, hb3, d0, d1, d2⟩ := SlS.at (SlF.fr0 hs2 hF2 : SlS _ _ _) hkl
              obtain ⟨g1, g2, g3, g4, g5⟩ := hsl k hkl
              have Htk : Hid ((L.take (k + 1)).flatMap slotC = (L.take k).flatMap slotC ++ slotC (L.getD k zS)) := hidIt (take_flat_succ (by rw [Hli.out]; exact hkl))
              have Hcn := hidIt (cntTo_succ (chgAt fs hs) (T + k))
              have hcb := cntTo_le (chgAt fs hs) (T + k)
              have hMb3 : M3 ≤ 4194304 := by rw [HM3.out]; omega
              have Hch : Hid (chgAt fs hs (T + k) = !sEq (L.getD k zS) (l.getD k zS)) := hidIt (by unfold chgAt; rw [← g3, ← g1])
              have Hfin : Hid (L.getD k zS = fix2 n.length (len0 ls) C (T + k) (fix1 n.length (l.getD k zS))) := hidIt (by rw [g1]; exact g2)
              have Hrow : Hid (decide (T + k < len0 ls) = decide (i = 0)) := hidIt (by simp only [g5])
              have c0w := (World.cell?_of_block (hF2.block b hb (by simp))).trans c0
              have hbw : b < wr.heap.size := Nat.lt_of_lt_of_le hb hF2.size
              have hub := own_base hown
              have hzo := hF2.size
              clear g1 g2 g3 g4 g5 hcb hsl
              generalize L.getD k zS = F at *
              generalize l.getD k zS = s at *
              generalize L.take k = dl at *
              obtain ⟨p, q, r⟩ := s
              simp only at d0 d1 d2
              have hk' : (k : Int) < l.length := by omega
              have hk0 : (0 : Int) ≤ k := by omega
              have hfa := (Fr.refl [] wr).alloc (.cells #[.int .i64 p, .int .i64 q, .bool r] 44)
              have Bt := Blk.new wr [.int .i64 p, .int .i64 q, .bool r] 44
              have hcells : ∀ X, Fr [] wr X → X.cell? ⟨b, off + i, none⟩ = some (.slice (some ⟨b3, off3, none⟩) l.length cap2) ∧ X.cell? ⟨b3, off3 + k * 3, none⟩ = some (.int .i64 p) ∧ X.cell? ⟨b3, off3 + k * 3 + 1, none⟩ = some (.int .i64 q) ∧ X.cell? ⟨b3, off3 + k * 3 + 2, none⟩ = some (.bool r) := fun X hX =>
                ⟨(World.cell?_of_block (hX.block b hbw (by simp))).trans c0w, (World.cell?_of_block (hX.block b3 hb3 (by simp))).trans d0, (World.cell?_of_block (hX.block b3 hb3 (by simp))).trans d1, (World.cell?_of_block (hX.block b3 hb3 (by simp))).trans d2⟩
              go_wp2_with fail
              refine (rBad_calls p q r (n.length : Int) _).mono ?_
              rintro e w1 ⟨rfl, hf1⟩
              replace Bt := Bt.fr0 hf1
              have hf01 := hfa.trans0 hf1
              clear hfa hf1
              cases hbd : badS (p, q, r) (n.length : Int) with
              | true =>
                have eF : F = (0, 0, false) := by rw [Hfin.out]; unfold fix1; rw [hbd]; rfl
                subst eF
                have ct := Bt.cell
                have ft := Bt.frozen
                have hs3 : Fr [] wr (((w1.setCell ⟨wr.heap.size, 0, none⟩ (.int .i64 0)).setCell ⟨wr.heap.size, 1, none⟩ (.int .i64 0)).setCell ⟨wr.heap.size, 2, none⟩ (.bool false)) := ((hf01.setCell (.inr (by simp)) _).setCell (.inr (by simp)) _).setCell (.inr (by simp)) _
                have Bz := ((Bt.setCell 0 (.int .i64 0)).setCell 1 (.int .i64 0)).setCell 2 (.bool false)
                simp only [List.set_cons_zero, List.set_cons_succ] at Bz
                by_cases h0 : i = 0
                · have h1 : ((i : Int) == 0) = true := by simp; omega
                  clear h0
                  go_wp2_with fail
                  refine (rHas_calls 0 0 false (n.length : Int) _).mono ?_
                  rintro e w3 ⟨rfl, hf3⟩
                  rw [show hasS (0, 0, false) (n.length : Int) = false from rfl]
                  have hf03 := hs3.trans0 hf3
                  replace Bz := Bz.fr0 hf3
                  clear ct ft
                  have ct := Bz.cell
                  have ft := Bz.frozen
                  have lt := Bz.lt
                  go_wp2_with fail
                  have hfX : Fr [] wr (w3.setCell ⟨wr.heap.size, 2, none⟩ (.bool false)) := hf03.setCell (.inr (by simp)) _
                  have BtX : Blk (w3.setCell ⟨wr.heap.size, 2, none⟩ (.bool false)) wr.heap.size [.int .i64 0, .int .i64 0, .bool false] 44 := Bz.setCell 2 (.bool false)
                  generalize hwx : (w3.setCell ⟨wr.heap.size, 2, none⟩ (.bool false)) = wx at *
                  try rw [hwx]
                  clear hwx
                  clear ct ft
                  have hownx := owns_fr hown hfX (by simp)
                  have hzx := hfX.size
                  refine wp_region_G (Fr [] wx.drew) [(true, 0), (true, 1), (true, 2), (true, 3), (true, 4), (true, 5), (true, 6), (true, 7), (true, 8)] (by as_aux_lemma => kernel_rfl) (by as_aux_lemma => kernel_rfl) (Fr.refl _ _) ?_
                  simp only [inOrder, List.map_cons, List.map_nil, List.getD_cons_zero, List.getD_cons_succ]
                  refine wpG_val (.agg #[.int .i64 (0), .int .i64 (0), .bool false]) (by first | rfl | go_simp) (fun X hX => by have cc := ((Blk.drew BtX).fr0 hX).cell; go_simp) ?_
                  simp only [Act.put, List.setIfInBounds_toArray, List.set_cons_zero, List.set_cons_succ]
                  iterate 3
                    refine wpG_pure fun K hK => ?_
                    go_simp
                    refine hK _ ?_
                    clear hK K
                  refine wpG_val (.slice (some ⟨b3, off3, none⟩) l.length cap2) (by first | rfl | go_simp) (fun X hX => by obtain ⟨e0, e1, e2, e3⟩ := hcells X (hfX.drew.trans0 hX); go_simp) ?_
                  simp only [Act.put, List.setIfInBounds_toArray, List.set_cons_zero, List.set_cons_succ]
                  iterate 2
                    refine wpG_pure fun K hK => ?_
                    go_simp
                    refine hK _ ?_
                    clear hK K
                  refine wpG_val (.agg #[.int .i64 p, .int .i64 q, .bool r]) (by first | rfl | go_simp) (fun X hX => by obtain ⟨e0, e1, e2, e3⟩ := hcells X (hfX.drew.trans0 hX); go_simp) ?_
                  simp only [Act.put, List.setIfInBounds_toArray, List.set_cons_zero, List.set_cons_succ]
                  iterate 1
                    refine wpG_pure fun K hK => ?_
                    go_simp
                    refine hK _ ?_
                    clear hK K
                  refine wpG_end ?_
                  generalize sEq ((0), (0), false) (p, q, r) = B at *
                  have ctx := (Blk.drew BtX).cell
                  clear hcells
                  cases B with
                  | true =>
                    have HM4 : Hid (M3 = M + cntTo (chgAt fs hs) (T + (k + 1))) := hidIt (by rw [← Nat.add_assoc, Hcn.out, Hch.out]; simp; rw [HM3.out])
                    clear Hcn Hch HM3 Hrow Hfin
                    go_wp2_with (at_builtin; refine Hid.out ?_)
                    refine hidIt ?_
                    refine wpList_append1 42 44 _ 3 24 Try.underlying42 infoSlotR rfl (by decide) (by decide) rfl _ _ rfl wo.heap.size u12 _ _ rfl ((owns_drew hownx).alloc _) (slotC ((0), (0), false)) rfl slot_one wx.heap.size rfl (Blk.new' (by simp) _ _) (by omega) (by simp; omega) ?_
                    intro v' w9 hown2 hgrow hloc
                    go_wp2
                    go_roundw
                    case rel => exact ⟨k + 1, M3, by omega, by go_num, rfl, HM4, by rw [Htk.out]; exact hown2, (((hF2.trans0 hfX).drew).alloc _).grown hgrow (fun x hx => .inr (hub x hx))⟩
                    case measure => simp [intOf]; omega
                  | false =>
                    have HM4 : Hid (M3 + 1 = M + cntTo (chgAt fs hs) (T + (k + 1))) := hidIt (by rw [← Nat.add_assoc, Hcn.out, Hch.out]; simp; rw [HM3.out]; omega)
                    clear Hcn Hch HM3 Hrow Hfin
                    go_wp2_with (at_builtin; refine Hid.out ?_)
                    refine hidIt ?_
                    refine wpList_append1 42 44 _ 3 24 Try.underlying42 infoSlotR rfl (by decide) (by decide) rfl _ _ rfl wo.heap.size u12 _ _ rfl ((owns_drew hownx).alloc _) (slotC ((0), (0), false)) rfl slot_one wx.heap.size rfl (Blk.new' (by simp) _ _) (by omega) (by simp; omega) ?_
                    intro v' w9 hown2 hgrow hloc
                    go_wp2
                    go_roundw
                    case rel => exact ⟨k + 1, M3 + 1, by omega, by go_num, by go_num, HM4, by rw [Htk.out]; exact hown2, (((hF2.trans0 hfX).drew).alloc _).grown hgrow (fun x hx => .inr (hub x hx))⟩
                    case measure => simp [intOf]; omega
                · have h1 : ((i : Int) == 0) = false := by simp; omega
                  go_wp2_with fail
                  have hfX : Fr [] wr ((((w1.setCell ⟨wr.heap.size, 0, none⟩ (.int .i64 0)).setCell ⟨wr.heap.size, 1, none⟩ (.int .i64 0)).setCell ⟨wr.heap.size, 2, none⟩ (.bool false)).setCell ⟨wr.heap.size, 2, none⟩ (.bool false)) := hs3.setCell (.inr (by simp)) _
                  have BtX : Blk ((((w1.setCell ⟨wr.heap.size, 0, none⟩ (.int .i64 0)).setCell ⟨wr.heap.size, 1, none⟩ (.int .i64 0)).setCell ⟨wr.heap.size, 2, none⟩ (.bool false)).setCell ⟨wr.heap.size, 2, none⟩ (.bool false)) wr.heap.size [.int .i64 0, .int .i64 0, .bool false] 44 := Bz.setCell 2 (.bool false)
                  generalize hwx : ((((w1.setCell ⟨wr.heap.size, 0, none⟩ (.int .i64 0)).setCell ⟨wr.heap.size, 1, none⟩ (.int .i64 0)).setCell ⟨wr.heap.size, 2, none⟩ (.bool false)).setCell ⟨wr.heap.size, 2, none⟩ (.bool false)) = wx at *
                  try rw [hwx]
                  clear hwx
                  clear ct ft
                  have hownx := owns_fr hown hfX (by simp)
                  have hzx := hfX.size
                  refine wp_region_G (Fr [] wx.drew) [(true, 0), (true, 1), (true, 2), (true, 3), (true, 4), (true, 5), (true, 6), (true, 7), (true, 8)] (by as_aux_lemma => kernel_rfl) (by as_aux_lemma => kernel_rfl) (Fr.refl _ _) ?_
                  simp only [inOrder, List.map_cons, List.map_nil, List.getD_cons_zero, List.getD_cons_succ]
                  refine wpG_val (.agg #[.int .i64 (0), .int .i64 (0), .bool false]) (by first | rfl | go_simp) (fun X hX => by have cc := ((Blk.drew BtX).fr0 hX).cell; go_simp) ?_
                  simp only [Act.put, List.setIfInBounds_toArray, List.set_cons_zero, List.set_cons_succ]
                  iterate 3
                    refine wpG_pure fun K hK => ?_
                    go_simp
                    refine hK _ ?_
                    clear hK K
                  refine wpG_val (.slice (some ⟨b3, off3, none⟩) l.length cap2) (by first | rfl | go_simp) (fun X hX => by obtain ⟨e0, e1, e2, e3⟩ := hcells X (hfX.drew.trans0 hX); go_simp) ?_
                  simp only [Act.put, List.setIfInBounds_toArray, List.set_cons_zero, List.set_cons_succ]
                  iterate 2
                    refine wpG_pure fun K hK => ?_
                    go_simp
                    refine hK _ ?_
                    clear hK K
                  refine wpG_val (.agg #[.int .i64 p, .int .i64 q, .bool r]) (by first | rfl | go_simp) (fun X hX => by obtain ⟨e0, e1, e2, e3⟩ := hcells X (hfX.drew.trans0 hX); go_simp) ?_
                  simp only [Act.put, List.setIfInBounds_toArray, List.set_cons_zero, List.set_cons_succ]
                  iterate 1
                    refine wpG_pure fun K hK => ?_
                    go_simp
                    refine hK _ ?_
                    clear hK K
                  refine wpG_end ?_
                  generalize sEq ((0), (0), false) (p, q, r) = B at *
                  have ctx := (Blk.drew BtX).cell
                  clear hcells
                  cases B with
                  | true =>
                    have HM4 : Hid (M3 = M + cntTo (chgAt fs hs) (T + (k + 1))) := hidIt (by rw [← Nat.add_assoc, Hcn.out, Hch.out]; simp; rw [HM3.out])
                    clear Hcn Hch HM3 Hrow Hfin
                    go_wp2_with (at_builtin; refine Hid.out ?_)
                    refine hidIt ?_
                    refine wpList_append1 42 44 _ 3 24 Try.underlying42 infoSlotR rfl (by decide) (by decide) rfl _ _ rfl wo.heap.size u12 _ _ rfl ((owns_drew hownx).alloc _) (slotC ((0), (0), false)) rfl slot_one wx.heap.size rfl (Blk.new' (by simp) _ _) (by omega) (by simp; omega) ?_
                    intro v' w9 hown2 hgrow hloc
                    go_wp2
                    go_roundw
                    case rel => exact ⟨k + 1, M3, by omega, by go_num, rfl, HM4, by rw [Htk.out]; exact hown2, (((hF2.trans0 hfX).drew).alloc _).grown hgrow (fun x hx => .inr (hub x hx))⟩
                    case measure => simp [intOf]; omega
                  | false =>
                    have HM4 : Hid (M3 + 1 = M + cntTo (chgAt fs hs) (T + (k + 1))) := hidIt (by rw [← Nat.add_assoc, Hcn.out, Hch.out]; simp; rw [HM3.out]; omega)
                    clear Hcn Hch HM3 Hrow Hfin
                    go_wp2_with (at_builtin; refine Hid.out ?_)
                    refine hidIt ?_
                    refine wpList_append1 42 44 _ 3 24 Try.underlying42 infoSlotR rfl (by decide) (by decide) rfl _ _ rfl wo.heap.size u12 _ _ rfl ((owns_drew hownx).alloc _) (slotC ((0), (0), false)) rfl slot_one wx.heap.size rfl (Blk.new' (by simp) _ _) (by omega) (by simp; omega) ?_
                    intro v' w9 hown2 hgrow hloc
                    go_wp2
                    go_roundw
                    case rel => exact ⟨k + 1, M3 + 1, by omega, by go_num, by go_num, HM4, by rw [Htk.out]; exact hown2, (((hF2.trans0 hfX).drew).alloc _).grown hgrow (fun x hx => .inr (hub x hx))⟩
                    case measure => simp [intOf]; omega
              | false =>
                have eF : F = (p, q, own2 n.length (len0 ls) C (T + k) (p, q, r)) := by rw [Hfin.out]; unfold fix1; rw [hbd]; rfl
                have eO : own2 n.length (len0 ls) C (T + k) (p, q, r) = (hasS (p, q, r) (n.length : Int) && decide (i = 0) && (C.getD q.toNat 0 == 1)) := by unfold own2; rw [Hrow.out]
                have ct := Bt.cell
                have ft := Bt.frozen
                have lt := Bt.lt
                by_cases h0 : i = 0
                · have kH := rHas_calls p q r (n.length : Int) w1
                  cases hh : hasS (p, q, r) (n.length : Int) with
                  | false =>
                    rw [hh] at eO kH
                    simp only [Bool.false_and] at eO
                    rw [eO] at eF
                    subst eF
                    have h1 : ((i : Int) == 0) = true := by simp; omega
                    clear h0
                    go_wp2_with fail
                    refine kH.mono ?_
                    rintro e w3 ⟨rfl, hf3⟩
                    have hf03 := hf01.trans0 hf3
                    replace Bt := Bt.fr0 hf3
                    clear ct ft lt
                    have ct := Bt.cell
                    have ft := Bt.frozen
                    have lt := Bt.lt
                    go_wp2_with fail
                    have hfX : Fr [] wr (w3.setCell ⟨wr.heap.size, 2, none⟩ (.bool false)) := hf03.setCell (.inr (by simp)) _
                    have BtX : Blk (w3.setCell ⟨wr.heap.size, 2, none⟩ (.bool false)) wr.heap.size [.int .i64 p, .int .i64 q, .bool false] 44 := Bt.setCell 2 (.bool false)
                    generalize hwx : (w3.setCell ⟨wr.heap.size, 2, none⟩ (.bool false)) = wx at *
                    try rw [hwx]
                    clear hwx
                    clear ct ft
                    have hownx := owns_fr hown hfX (by simp)
                    have hzx := hfX.size
                    refine wp_region_G (Fr [] wx.drew) [(true, 0), (true, 1), (true, 2), (true, 3), (true, 4), (true, 5), (true, 6), (true, 7), (true, 8)] (by as_aux_lemma => kernel_rfl) (by as_aux_lemma => kernel_rfl) (Fr.refl _ _) ?_
                    simp only [inOrder, List.map_cons, List.map_nil, List.getD_cons_zero, List.getD_cons_succ]
                    refine wpG_val (.agg #[.int .i64 (p), .int .i64 (q), .bool false]) (by first | rfl | go_simp) (fun X hX => by have cc := ((Blk.drew BtX).fr0 hX).cell; go_simp) ?_
                    simp only [Act.put, List.setIfInBounds_toArray, List.set_cons_zero, List.set_cons_succ]
                    iterate 3
                      refine wpG_pure fun K hK => ?_
                      go_simp
                      refine hK _ ?_
                      clear hK K
                    refine wpG_val (.slice (some ⟨b3, off3, none⟩) l.length cap2) (by first | rfl | go_simp) (fun X hX => by obtain ⟨e0, e1, e2, e3⟩ := hcells X (hfX.drew.trans0 hX); go_simp) ?_
                    simp only [Act.put, List.setIfInBounds_toArray, List.set_cons_zero, List.set_cons_succ]
                    iterate 2
                      refine wpG_pure fun K hK => ?_
                      go_simp
                      refine hK _ ?_
                      clear hK K
                    refine wpG_val (.agg #[.int .i64 p, .int .i64 q, .bool r]) (by first | rfl | go_simp) (fun X hX => by obtain ⟨e0, e1, e2, e3⟩ := hcells X (hfX.drew.trans0 hX); go_simp) ?_
                    simp only [Act.put, List.setIfInBounds_toArray, List.set_cons_zero, List.set_cons_succ]
                    iterate 1
                      refine wpG_pure fun K hK => ?_
                      go_simp
                      refine hK _ ?_
                      clear hK K
                    refine wpG_end ?_
                    generalize sEq ((p), (q), false) (p, q, r) = B at *
                    have ctx := (Blk.drew BtX).cell
                    clear hcells
                    cases B with
                    | true =>
                      have HM4 : Hid (M3 = M + cntTo (chgAt fs hs) (T + (k + 1))) := hidIt (by rw [← Nat.add_assoc, Hcn.out, Hch.out]; simp; rw [HM3.out])
                      clear Hcn Hch HM3 Hrow Hfin
                      go_wp2_with (at_builtin; refine Hid.out ?_)
                      refine hidIt ?_
                      refine wpList_append1 42 44 _ 3 24 Try.underlying42 infoSlotR rfl (by decide) (by decide) rfl _ _ rfl wo.heap.size u12 _ _ rfl ((owns_drew hownx).alloc _) (slotC ((p), (q), false)) rfl slot_one wx.heap.size rfl (Blk.new' (by simp) _ _) (by omega) (by simp; omega) ?_
                      intro v' w9 hown2 hgrow hloc
                      go_wp2
                      go_roundw
                      case rel => exact ⟨k + 1, M3, by omega, by go_num, rfl, HM4, by rw [Htk.out]; exact hown2, (((hF2.trans0 hfX).drew).alloc _).grown hgrow (fun x hx => .inr (hub x hx))⟩
                      case measure => simp [intOf]; omega
                    | false =>
                      have HM4 : Hid (M3 + 1 = M + cntTo (chgAt fs hs) (T + (k + 1))) := hidIt (by rw [← Nat.add_assoc, Hcn.out, Hch.out]; simp; rw [HM3.out]; omega)
                      clear Hcn Hch HM3 Hrow Hfin
                      go_wp2_with (at_builtin; refine Hid.out ?_)
                      refine hidIt ?_
                      refine wpList_append1 42 44 _ 3 24 Try.underlying42 infoSlotR rfl (by decide) (by decide) rfl _ _ rfl wo.heap.size u12 _ _ rfl ((owns_drew hownx).alloc _) (slotC ((p), (q), false)) rfl slot_one wx.heap.size rfl (Blk.new' (by simp) _ _) (by omega) (by simp; omega) ?_
                      intro v' w9 hown2 hgrow hloc
                      go_wp2
                      go_roundw
                      case rel => exact ⟨k + 1, M3 + 1, by omega, by go_num, by go_num, HM4, by rw [Htk.out]; exact hown2, (((hF2.trans0 hfX).drew).alloc _).grown hgrow (fun x hx => .inr (hub x hx))⟩
                      case measure => simp [intOf]; omega
                  | true =>
                    obtain ⟨H, hqH, hHm⟩ := has_host (m := n.length) hh
                    simp only at hqH
                    subst hqH
                    rw [hh, Int.toNat_natCast, hcg H hHm] at eO
                    rw [hh] at kH
                    simp only [h0, decide_true, Bool.and_true, Bool.true_and] at eO
                    have hkr := fun w' hf => kN (H : Int) w' hf
                    have hrb := hrcb (H : Int)
                    clear hcg hrcb kN
                    have h1 : ((i : Int) == 0) = true := by simp; omega
                    clear h0
                    generalize rc1 (n.length : Int) (H : Int) fs = y at *
                    go_wp2_with fail
                    refine kH.mono ?_
                    rintro e w3 ⟨rfl, hf3⟩
                    have hf03 := hf01.trans0 hf3
                    replace Bt := Bt.fr0 hf3
                    clear ct ft lt
                    have ct := Bt.cell
                    have hkr3 := hkr w3 ((hFw.trans0 hF2).trans0 hf03)
                    clear hkr
                    go_wp2_with fail
                    refine hkr3.mono ?_
                    rintro e w4 ⟨rfl, hf4⟩
                    have hf04 := hf03.trans0 hf4
                    replace Bt := Bt.fr0 hf4
                    clear ct hkr3
                    have ct := Bt.cell
                    have ft := Bt.frozen
                    have lt := Bt.lt
                    by_cases hy : y = 1
                    · subst hy
                      simp only [show (((1 : Nat) : Int) == 1) = true from rfl] at eO
                      rw [eO] at eF
                      subst eF
                      go_wp2_with fail
                      have hfX : Fr [] wr (w4.setCell ⟨wr.heap.size, 2, none⟩ (.bool true)) := hf04.setCell (.inr (by simp)) _
                      have BtX : Blk (w4.setCell ⟨wr.heap.size, 2, none⟩ (.bool true)) wr.heap.size [.int .i64 p, .int .i64 (H : Int), .bool true] 44 := Bt.setCell 2 (.bool true)
                      generalize hwx : (w4.setCell ⟨wr.heap.size, 2, none⟩ (.bool true)) = wx at *
                      try rw [hwx]
                      clear hwx
                      clear ct ft
                      have hownx := owns_fr hown hfX (by simp)
                      have hzx := hfX.size
                      refine wp_region_G (Fr [] wx.drew) [(true, 0), (true, 1), (true, 2), (true, 3), (true, 4), (true, 5), (true, 6), (true, 7), (true, 8)] (by as_aux_lemma => kernel_rfl) (by as_aux_lemma => kernel_rfl) (Fr.refl _ _) ?_
                      simp only [inOrder, List.map_cons, List.map_nil, List.getD_cons_zero, List.getD_cons_succ]
                      refine wpG_val (.agg #[.int .i64 (p), .int .i64 ((H : Int)), .bool true]) (by first | rfl | go_simp) (fun X hX => by have cc := ((Blk.drew BtX).fr0 hX).cell; go_simp) ?_
                      simp only [Act.put, List.setIfInBounds_toArray, List.set_cons_zero, List.set_cons_succ]
                      iterate 3
                        refine wpG_pure fun K hK => ?_
                        go_simp
                        refine hK _ ?_
                        clear hK K
                      refine wpG_val (.slice (some ⟨b3, off3, none⟩) l.length cap2) (by first | rfl | go_simp) (fun X hX => by obtain ⟨e0, e1, e2, e3⟩ := hcells X (hfX.drew.trans0 hX); go_simp) ?_
                      simp only [Act.put, List.setIfInBounds_toArray, List.set_cons_zero, List.set_cons_succ]
                      iterate 2
                        refine wpG_pure fun K hK => ?_
                        go_simp
                        refine hK _ ?_
                        clear hK K
                      refine wpG_val (.agg #[.int .i64 p, .int .i64 (H : Int), .bool r]) (by first | rfl | go_simp) (fun X hX => by obtain ⟨e0, e1, e2, e3⟩ := hcells X (hfX.drew.trans0 hX); go_simp) ?_
                      simp only [Act.put, List.setIfInBounds_toArray, List.set_cons_zero, List.set_cons_succ]
                      iterate 1
                        refine wpG_pure fun K hK => ?_
                        go_simp
                        refine hK _ ?_
                        clear hK K
                      refine wpG_end ?_
                      generalize sEq ((p), ((H : Int)), true) (p, (H : Int), r) = B at *
                      have ctx := (Blk.drew BtX).cell
                      clear hcells
                      cases B with
                      | true =>
                        have HM4 : Hid (M3 = M + cntTo (chgAt fs hs) (T + (k + 1))) := hidIt (by rw [← Nat.add_assoc, Hcn.out, Hch.out]; simp; rw [HM3.out])
                        clear Hcn Hch HM3 Hrow Hfin
                        go_wp2_with (at_builtin; refine Hid.out ?_)
                        refine hidIt ?_
                        refine wpList_append1 42 44 _ 3 24 Try.underlying42 infoSlotR rfl (by decide) (by decide) rfl _ _ rfl wo.heap.size u12 _ _ rfl ((owns_drew hownx).alloc _) (slotC ((p), ((H : Int)), true)) rfl slot_one wx.heap.size rfl (Blk.new' (by simp) _ _) (by omega) (by simp; omega) ?_
                        intro v' w9 hown2 hgrow hloc
                        go_wp2
                        go_roundw
                        case rel => exact ⟨k + 1, M3, by omega, by go_num, rfl, HM4, by rw [Htk.out]; exact hown2, (((hF2.trans0 hfX).drew).alloc _).grown hgrow (fun x hx => .inr (hub x hx))⟩
                        case measure => simp [intOf]; omega
                      | false =>
                        have HM4 : Hid (M3 + 1 = M + cntTo (chgAt fs hs) (T + (k + 1))) := hidIt (by rw [← Nat.add_assoc, Hcn.out, Hch.out]; simp; rw [HM3.out]; omega)
                        clear Hcn Hch HM3 Hrow Hfin
                        go_wp2_with (at_builtin; refine Hid.out ?_)
                        refine hidIt ?_
                        refine wpList_append1 42 44 _ 3 24 Try.underlying42 infoSlotR rfl (by decide) (by decide) rfl _ _ rfl wo.heap.size u12 _ _ rfl ((owns_drew hownx).alloc _) (slotC ((p), ((H : Int)), true)) rfl slot_one wx.heap.size rfl (Blk.new' (by simp) _ _) (by omega) (by simp; omega) ?_
                        intro v' w9 hown2 hgrow hloc
                        go_wp2
                        go_roundw
                        case rel => exact ⟨k + 1, M3 + 1, by omega, by go_num, by go_num, HM4, by rw [Htk.out]; exact hown2, (((hF2.trans0 hfX).drew).alloc _).grown hgrow (fun x hx => .inr (hub x hx))⟩
                        case measure => simp [intOf]; omega
                    · have hyb : ((y : Int) == 1) = false := by simp; omega
                      rw [hyb] at eO
                      rw [eO] at eF
                      subst eF
                      go_wp2_with fail
                      have hfX : Fr [] wr (w4.setCell ⟨wr.heap.size, 2, none⟩ (.bool false)) := hf04.setCell (.inr (by simp)) _
                      have BtX : Blk (w4.setCell ⟨wr.heap.size, 2, none⟩ (.bool false)) wr.heap.size [.int .i64 p, .int .i64 (H : Int), .bool false] 44 := Bt.setCell 2 (.bool false)
                      generalize hwx : (w4.setCell ⟨wr.heap.size, 2, none⟩ (.bool false)) = wx at *
                      try rw [hwx]
                      clear hwx
                      clear ct ft
                      have hownx := owns_fr hown hfX (by simp)
                      have hzx := hfX.size
                      refine wp_region_G (Fr [] wx.drew) [(true, 0), (true, 1), (true, 2), (true, 3), (true, 4), (true, 5), (true, 6), (true, 7), (true, 8)] (by as_aux_lemma => kernel_rfl) (by as_aux_lemma => kernel_rfl) (Fr.refl _ _) ?_
                      simp only [inOrder, List.map_cons, List.map_nil, List.getD_cons_zero, List.getD_cons_succ]
                      refine wpG_val (.agg #[.int .i64 (p), .int .i64 ((H : Int)), .bool false]) (by first | rfl | go_simp) (fun X hX => by have cc := ((Blk.drew BtX).fr0 hX).cell; go_simp) ?_
                      simp only [Act.put, List.setIfInBounds_toArray, List.set_cons_zero, List.set_cons_succ]
                      iterate 3
                        refine wpG_pure fun K hK => ?_
                        go_simp
                        refine hK _ ?_
                        clear hK K
                      refine wpG_val (.slice (some ⟨b3, off3, none⟩) l.length cap2) (by first | rfl | go_simp) (fun X hX => by obtain ⟨e0, e1, e2, e3⟩ := hcells X (hfX.drew.trans0 hX); go_simp) ?_
                      simp only [Act.put, List.setIfInBounds_toArray, List.set_cons_zero, List.set_cons_succ]
                      iterate 2
                        refine wpG_pure fun K hK => ?_
                        go_simp
                        refine hK _ ?_
                        clear hK K
                      refine wpG_val (.agg #[.int .i64 p, .int .i64 (H : Int), .bool r]) (by first | rfl | go_simp) (fun X hX => by obtain ⟨e0, e1, e2, e3⟩ := hcells X (hfX.drew.trans0 hX); go_simp) ?_
                      simp only [Act.put, List.setIfInBounds_toArray, List.set_cons_zero, List.set_cons_succ]
                      iterate 1
                        refine wpG_pure fun K hK => ?_
                        go_simp
                        refine hK _ ?_
                        clear hK K
                      refine wpG_end ?_
                      generalize sEq ((p), ((H : Int)), false) (p, (H : Int), r) = B at *
                      have ctx := (Blk.drew BtX).cell
                      clear hcells
                      cases B with
                      | true =>
                        have HM4 : Hid (M3 = M + cntTo (chgAt fs hs) (T + (k + 1))) := hidIt (by rw [← Nat.add_assoc, Hcn.out, Hch.out]; simp; rw [HM3.out])
                        clear Hcn Hch HM3 Hrow Hfin
                        go_wp2_with (at_builtin; refine Hid.out ?_)
                        refine hidIt ?_
                        refine wpList_append1 42 44 _ 3 24 Try.underlying42 infoSlotR rfl (by decide) (by decide) rfl _ _ rfl wo.heap.size u12 _ _ rfl ((owns_drew hownx).alloc _) (slotC ((p), ((H : Int)), false)) rfl slot_one wx.heap.size rfl (Blk.new' (by simp) _ _) (by omega) (by simp; omega) ?_
                        intro v' w9 hown2 hgrow hloc
                        go_wp2
                        go_roundw
                        case rel => exact ⟨k + 1, M3, by omega, by go_num, rfl, HM4, by rw [Htk.out]; exact hown2, (((hF2.trans0 hfX).drew).alloc _).grown hgrow (fun x hx => .inr (hub x hx))⟩
                        case measure => simp [intOf]; omega
                      | false =>
                        have HM4 : Hid (M3 + 1 = M + cntTo (chgAt fs hs) (T + (k + 1))) := hidIt (by rw [← Nat.add_assoc, Hcn.out, Hch.out]; simp; rw [HM3.out]; omega)
                        clear Hcn Hch HM3 Hrow Hfin
                        go_wp2_with (at_builtin; refine Hid.out ?_)
                        refine hidIt ?_
                        refine wpList_append1 42 44 _ 3 24 Try.underlying42 infoSlotR rfl (by decide) (by decide) rfl _ _ rfl wo.heap.size u12 _ _ rfl ((owns_drew hownx).alloc _) (slotC ((p), ((H : Int)), false)) rfl slot_one wx.heap.size rfl (Blk.new' (by simp) _ _) (by omega) (by simp; omega) ?_
                        intro v' w9 hown2 hgrow hloc
                        go_wp2
                        go_roundw
                        case rel => exact ⟨k + 1, M3 + 1, by omega, by go_num, by go_num, HM4, by rw [Htk.out]; exact hown2, (((hF2.trans0 hfX).drew).alloc _).grown hgrow (fun x hx => .inr (hub x hx))⟩
                        case measure => simp [intOf]; omega
                · have h1 : ((i : Int) == 0) = false := by simp; omega
                  simp only [h0, decide_false, Bool.and_false, Bool.false_and] at eO
                  rw [eO] at eF
                  subst eF
                  go_wp2_with fail
                  have hfX : Fr [] wr (w1.setCell ⟨wr.heap.size, 2, none⟩ (.bool false)) := hf01.setCell (.inr (by simp)) _
                  have BtX : Blk (w1.setCell ⟨wr.heap.size, 2, none⟩ (.bool false)) wr.heap.size [.int .i64 p, .int .i64 q, .bool false] 44 := Bt.setCell 2 (.bool false)
                  generalize hwx : (w1.setCell ⟨wr.heap.size, 2, none⟩ (.bool false)) = wx at *
                  try rw [hwx]
                  clear hwx
                  clear ct ft
                  have hownx := owns_fr hown hfX (by simp)
                  have hzx := hfX.size
                  refine wp_region_G (Fr [] wx.drew) [(true, 0), (true, 1), (true, 2), (true, 3), (true, 4), (true, 5), (true, 6), (true, 7), (true, 8)] (by as_aux_lemma => kernel_rfl) (by as_aux_lemma => kernel_rfl) (Fr.refl _ _) ?_
                  simp only [inOrder, List.map_cons, List.map_nil, List.getD_cons_zero, List.getD_cons_succ]
                  refine wpG_val (.agg #[.int .i64 (p), .int .i64 (q), .bool false]) (by first | rfl | go_simp) (fun X hX => by have cc := ((Blk.drew BtX).fr0 hX).cell; go_simp) ?_
                  simp only [Act.put, List.setIfInBounds_toArray, List.set_cons_zero, List.set_cons_succ]
                  iterate 3
                    refine wpG_pure fun K hK => ?_
                    go_simp
                    refine hK _ ?_
                    clear hK K
                  refine wpG_val (.slice (some ⟨b3, off3, none⟩) l.length cap2) (by first | rfl | go_simp) (fun X hX => by obtain ⟨e0, e1, e2, e3⟩ := hcells X (hfX.drew.trans0 hX); go_simp) ?_
                  simp only [Act.put, List.setIfInBounds_toArray, List.set_cons_zero, List.set_cons_succ]
                  iterate 2
                    refine wpG_pure fun K hK => ?_
                    go_simp
                    refine hK _ ?_
                    clear hK K
                  refine wpG_val (.agg #[.int .i64 p, .int .i64 q, .bool r]) (by first | rfl | go_simp) (fun X hX => by obtain ⟨e0, e1, e2, e3⟩ := hcells X (hfX.drew.trans0 hX); go_simp) ?_
                  simp only [Act.put, List.setIfInBounds_toArray, List.set_cons_zero, List.set_cons_succ]
                  iterate 1
                    refine wpG_pure fun K hK => ?_
                    go_simp
                    refine hK _ ?_
                    clear hK K
                  refine wpG_end ?_
                  generalize sEq ((p), (q), false) (p, q, r) = B at *
                  have ctx := (Blk.drew BtX).cell
                  clear hcells
                  cases B with
                  | true =>
                    have HM4 : Hid (M3 = M + cntTo (chgAt fs hs) (T + (k + 1))) := hidIt (by rw [← Nat.add_assoc, Hcn.out, Hch.out]; simp; rw [HM3.out])
                    clear Hcn Hch HM3 Hrow Hfin
                    go_wp2_with (at_builtin; refine Hid.out ?_)
                    refine hidIt ?_
                    refine wpList_append1 42 44 _ 3 24 Try.underlying42 infoSlotR rfl (by decide) (by decide) rfl _ _ rfl wo.heap.size u12 _ _ rfl ((owns_drew hownx).alloc _) (slotC ((p), (q), false)) rfl slot_one wx.heap.size rfl (Blk.new' (by simp) _ _) (by omega) (by simp; omega) ?_
                    intro v' w9 hown2 hgrow hloc
                    go_wp2
                    go_roundw
                    case rel => exact ⟨k + 1, M3, by omega, by go_num, rfl, HM4, by rw [Htk.out]; exact hown2, (((hF2.trans0 hfX).drew).alloc _).grown hgrow (fun x hx => .inr (hub x hx))⟩
                    case measure => simp [intOf]; omega
                  | false =>
                    have HM4 : Hid (M3 + 1 = M + cntTo (chgAt fs hs) (T + (k + 1))) := hidIt (by rw [← Nat.add_assoc, Hcn.out, Hch.out]; simp; rw [HM3.out]; omega)
                    clear Hcn Hch HM3 Hrow Hfin
                    go_wp2_with (at_builtin; refine Hid.out ?_)
                    refine hidIt ?_
                    refine wpList_append1 42 44 _ 3 24 Try.underlying42 infoSlotR rfl (by decide) (by decide) rfl _ _ rfl wo.heap.size u12 _ _ rfl ((owns_drew hownx).alloc _) (slotC ((p), (q), false)) rfl slot_one wx.heap.size rfl (Blk.new' (by simp) _ _) (by omega) (by simp; omega) ?_
                    intro v' w9 hown2 hgrow hloc
                    go_wp2
                    go_roundw
                    case rel => exact ⟨k + 1, M3 + 1, by omega, by go_num, by go_num, HM4, by rw [Htk.out]; exact hown2, (((hF2.trans0 hfX).drew).alloc _).grown hgrow (fun x hx => .inr (hub x hx))⟩
                    case measure => simp [intOf]; omega
            · have hke : k = l.length := by omega
              subst hke
              have c0w := (World.cell?_of_block (hF2.block b hb (by simp))).trans c0
              have hM4 := hMd.fr hF2 (by simp)
              have hF3 := hF1.trans0 hF2
              have hLt : L.take l.length = L := List.take_of_length_le (by rw [Hli.out]; exact Nat.le_refl _)
              rw [hLt] at hown
              have hsx : SlS wr u12 L := SlF.of_owns (by rw [Hli.out]; exact hown)
              have hxb : ∀ b, u12.ownBlock = some b → b < wr.heap.size ∧ u10.ownBlock ≠ some b := fun b hb => ⟨(hown.lt b hb).2, fun h3 => by have := (hMd.lt b h3).2; have := (hown.lt b hb).1; omega⟩
              have hub := fun x hx => (hMd.lt x hx).1
              have hsz := hF3.size
              have hszA := hF.size
              obtain ⟨ax, capx, hxe, _, _, _⟩ := hsx.open
              rw [Hli.out] at hxe
              subst hxe
              obtain ⟨vs, hV⟩ := hM4
              clear hown hMd hLt
              go_wp2_with (at_builtin; refine wpList_append1 23 42 (.slice none 0 0) 1 24 Try.underlying23 infoRowR rfl (by decide) (by decide) rfl _ _ rfl wA.heap.size _ _ vs rfl (hV.1.alloc _) [.slice ax l.length capx] rfl (by intro u hu; simp at hu; subst hu; rfl) wr.heap.size rfl (Blk.new _ _ _) (by omega) (by simp; omega) ?_; intro v' w3 hown3 hgrow hloc)
              go_wp2
              go_roundw
              case rel => exact ⟨i + 1, M3, by omega, by go_num, rfl, hidIt (by rw [Hsum.out]; exact HM3.out), by rw [Hst.out]; exact (hV.fr ((Fr.refl [] _).alloc _) (by simp)).snoc hown3 hgrow hloc (SlF.fr0 hsx ((Fr.refl [] _).alloc _)) (fun b hb => ⟨by have := (hxb b hb).1; simp; omega, (hxb b hb).2⟩), (hF3.alloc _).grown hgrow (fun x hx => .inr (by have := hub x hx; omega))⟩
              case measure => simp [intOf]; omega
        · have hie : i = ls.length := by omega
          subst hie
          have hsum : ((ls.take ls.length).map List.length).sum = fs.length := by rw [List.take_length, ← hfs, List.length_flatten]
          have HM5 : Hid (M2 = cntTo (diffAt n C) n.length + cntTo (chgAt fs hs) fs.length) := hidIt (by rw [HM2.out, HM.out, hsum])
          rw [List.take_of_length_le (by rw [hRll]; exact Nat.le_refl _)] at hMd
          clear hslot hsum HM2 HM
          go_wp2
          refine bodyPost_ret (v := .tuple #[u8, u10, .int .i64 (M2 : Int)]) (by simp [results, Try.results16, go_sem]) rfl ⟨u8, u10, by rw [hfs, hCC, ← HM5.out], by rw [hfs, hCC]; exact SlF.fr0 sC hF1, hMd.slr, hFw⟩
end Go.Proofs.Ytmbbmombhkaeoaa
