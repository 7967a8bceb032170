/-
  ref19.Look.
-/
import Derived.Test.YtmbbmombhkaeoaaChkR
namespace Go.Proofs.Ytmbbmombhkaeoaa
open Go.RowKit Go.Maps
attribute [local go_sem] Oper.semAt_some
attribute [local go_sem high] equalSlot0 equalSlotR0

/-- the report that is being made, in block b: its four rows -/
structure Rep (w0 A : World) (b : Nat) (vs : List Value) (ls : List (List Int)) : Prop where
  blk : Blk A b vs 31
  own : OwnV A w0.heap.size 3 vs ls
  fr : Fr [b] w0 A
  lt : b < w0.heap.size
theorem Rep.fr0 {w0 A A' : World} {b : Nat} {vs : List Value} {ls : List (List Int)} (h : Rep w0 A b vs ls) (hf : Fr [] A A') : Rep w0 A' b vs ls := ⟨h.blk.fr0 hf, h.own.fr hf (by simp), h.fr.trans0 hf, h.lt⟩
theorem Rep.mid {w0 A W : World} {b i : Nat} {vs : List Value} {ls : List (List Int)} {v : Value} {o : Obj} (h : Rep w0 A b vs ls) (hv : vs[i]? = some v) (hg : (A.alloc o).grownBy W v.ownBlock) : Blk W b vs 31 :=
  (h.blk.alloc o).fr (Fr.of_grown hg) (fun hm => by have := own_base (h.own.2.1 i v hv) b (by simpa using hm); have := h.lt; omega)
theorem Rep.step {w0 A W : World} {b i : Nat} {vs : List Value} {ls : List (List Int)} {v v' : Value} {o : Obj} {x : Int} (h : Rep w0 A b vs ls) (hv : vs[i]? = some v) (hown : W.ownsRow w0.heap.size 3 1 v' ((ls.getD i []).length + 1) ((ls.getD i []).flatMap intC ++ intC x))
    (hg : (A.alloc o).grownBy W v.ownBlock) (hloc : v'.ownBlock = v.ownBlock ∨ v'.ownBlock = some (A.alloc o).heap.size) : Rep w0 (W.setCell ⟨b, i, none⟩ v') b (vs.set i v') (ls.set i (ls.getD i [] ++ [x])) := by
  have hm := h.mid hv hg
  have h1 := (h.own.fr ((Fr.refl [] A).alloc o) (by simp)).step i x hv hown hg hloc
  have hs : Fr [b] W (W.setCell ⟨b, i, none⟩ v') := (Fr.refl _ _).setCell (.inl (by simp)) _
  have hlt := h.lt
  refine ⟨hm.setCell i v', h1.frA hs (fun j u k hu hk hm => ?_), ?_, hlt⟩
  · have := List.mem_singleton.1 hm
    subst this
    have := own_base (h1.2.1 j u hu) k hk
    omega
  · refine ((h.fr.alloc o).trans (Fr.of_grown hg) (fun k hk hl => ?_)).trans' hs
    have := own_base (h.own.2.1 i v hv) k (by simpa using hk)
    omega
set_option maxRecDepth 100000 in
set_option maxHeartbeats 6400000 in
theorem rLook_calls (v u : Value) (n : List Int) (ls : List (List Slt)) (w : World) (hv : SlI w v n) (hu : SlR w u ls) (ht : tot ls ≤ 1048576) (hn : n.length ≤ 1048576) : Calls Try.prog 12 #[v, u] w (LookPost n ls w) := by
  obtain ⟨an, capn, rfl, hlcn, hcmn, _⟩ := hv.open
  obtain ⟨a', cap', rfl, hlc', hcm'⟩ := hu.open
  unfold maxLen at hcm' hcmn
  have htl := tot_len ls
  have htf := flatten_len ls
  have hcl := rcL_length n.length ls.flatten
  have hcg : ∀ j, j < n.length → (rcL n.length ls.flatten).getD j 0 = ((rc1 (n.length : Int) (j : Int) ls.flatten : Nat) : Int) := fun j hj => rcL_getD _ hj
  have hrcb : ∀ h, rc1 (n.length : Int) h ls.flatten ≤ 1048576 := fun h => Nat.le_trans (rc1_le _ _ _) (by omega)
  have kR := fun (h : Int) (w' : World) (hf : Fr [] w w') => Refs_calls (n.length : Int) h (.slice a' ls.length cap') ls w' (hu.fr0 hf) ht
  unfold rc at kR
  have B4 : Blk ((w.alloc (.cells #[.slice none 0 0, .slice none 0 0, .slice none 0 0, .slice none 0 0] 31)).alloc (.cells #[.slice none 0 0, .slice none 0 0, .slice none 0 0, .slice none 0 0] 31)) w.heap.size [.slice none 0 0, .slice none 0 0, .slice none 0 0, .slice none 0 0] 31 := (Blk.new w [_, _, _, _] _).alloc _
  have B5 : Blk ((w.alloc (.cells #[.slice none 0 0, .slice none 0 0, .slice none 0 0, .slice none 0 0] 31)).alloc (.cells #[.slice none 0 0, .slice none 0 0, .slice none 0 0, .slice none 0 0] 31)) (w.heap.size + 1) [.slice none 0 0, .slice none 0 0, .slice none 0 0, .slice none 0 0] 31 := Blk.new' (by simp) [_, _, _, _] _
  have hf0 := ((Fr.refl [] w).alloc (.cells #[.slice none 0 0, .slice none 0 0, .slice none 0 0, .slice none 0 0] 31)).alloc (.cells #[.slice none 0 0, .slice none 0 0, .slice none 0 0, .slice none 0 0] 31)
  have hz0 : ((w.alloc (.cells #[.slice none 0 0, .slice none 0 0, .slice none 0 0, .slice none 0 0] 31)).alloc (.cells #[.slice none 0 0, .slice none 0 0, .slice none 0 0, .slice none 0 0] 31)).heap.size = w.heap.size + 2 := by simp
  generalize hw2 : ((w.alloc (.cells #[.slice none 0 0, .slice none 0 0, .slice none 0 0, .slice none 0 0] 31)).alloc (.cells #[.slice none 0 0, .slice none 0 0, .slice none 0 0, .slice none 0 0] 31)) = w2 at *
  have R0 : Rep w2 w2 (w.heap.size + 1) [.slice none 0 0, .slice none 0 0, .slice none 0 0, .slice none 0 0] [[], [], [], []] := ⟨B5, OwnV.nil w2 _ _ 4, Fr.refl _ _, by omega⟩
  have hz2 : w.heap.size + 2 ≤ w2.heap.size := by omega
  have hfw : ∀ X, Fr [w.heap.size + 1] w2 X → Fr [] w X := fun X hX => hf0.trans hX (fun x hx hl => by have := List.mem_singleton.1 hx; omega)
  clear hz0 B5
  go_enter Try.func12, Try.ntmps12
  go_wp2_with fail
  clear hw2
  go_loopw [6] (fun i wr => ∃ (j : Nat) (v0 v1 : Value), j ≤ n.length ∧ i = .int .i64 j ∧ Rep w2 wr (w.heap.size + 1) [v0, v1, .slice none 0 0, .slice none 0 0] [pickTo (moreB n (rcL n.length ls.flatten)) j, pickTo (lessB n (rcL n.length ls.flatten)) j, [], []]) (fun i _ => n.length - (intOf i).toNat)
  case atStart => exact ⟨0, _, _, Nat.zero_le _, rfl, R0⟩
  case round =>
    obtain ⟨j, v0, v1, hj, rfl, hR⟩ := hrel
    have hFw := hfw _ hR.fr
    by_cases hlt : j < n.length
    · have hcj := hcg j hlt
      have Hm : Hid (pickTo (moreB n (rcL n.length ls.flatten)) (j + 1) = pickTo (moreB n (rcL n.length ls.flatten)) j ++ if (rcL n.length ls.flatten).getD j 0 < n.getD j 0 then [(j : Int)] else []) := hidIt (by rw [pickTo_succ]; simp [moreB])
      have Hl : Hid (pickTo (lessB n (rcL n.length ls.flatten)) (j + 1) = pickTo (lessB n (rcL n.length ls.flatten)) j ++ if n.getD j 0 < (rcL n.length ls.flatten).getD j 0 then [(j : Int)] else []) := hidIt (by rw [pickTo_succ]; simp [lessB])
      have hp1 := pickTo_len (moreB n (rcL n.length ls.flatten)) j
      have hp2 := pickTo_len (lessB n (rcL n.length ls.flatten)) j
      rw [hcj] at Hm Hl
      have hkr := kR (j : Int)
      have hrb := hrcb (j : Int)
      obtain ⟨bn, on, rfl, hbn, en⟩ := SlI.at (SlF.fr0 hv hFw : SlI _ _ _) hlt
      have hen : ∀ X, Fr [w.heap.size + 1] wr X → True := fun _ _ => trivial
      have hnv : ∀ X, Fr [] w X → X.cell? ⟨bn, on + j, none⟩ = some (.int .i64 (n.getD j 0)) := fun X hX => by
        obtain ⟨b', o', he, _, h⟩ := SlI.at (SlF.fr0 hv hX : SlI _ _ _) hlt
        cases he
        exact h
      clear kR hcg hrcb hcj en hen hbn
      generalize rc1 (n.length : Int) (j : Int) ls.flatten = y at *
      generalize pickTo (moreB n (rcL n.length ls.flatten)) j = M at *
      generalize pickTo (lessB n (rcL n.length ls.flatten)) j = L at *
      generalize n.getD j 0 = x at *
      have hjn : (j : Int) < n.length := by omega
      have hj0 : (0 : Int) ≤ j := by omega
      clear hFw
      go_wp2_with fail
      have hFw := hfw _ hR.fr
      have hFd : Fr [] wr wr.drew := (Fr.refl _ _).drew
      refine wp_region_G (Fr [] wr.drew) [(true, 0), (true, 1), (true, 2), (true, 3), (true, 4), (true, 5), (true, 6), (true, 7), (false, 8), (true, 9)] (by as_aux_lemma => kernel_rfl) (by as_aux_lemma => kernel_rfl) (Fr.refl _ _) ?_
      simp only [inOrder, List.map_cons, List.map_nil, List.getD_cons_zero, List.getD_cons_succ]
      iterate 3
        refine wpG_pure fun K hK => ?_
        go_simp
        refine hK _ ?_
        clear hK K
      refine wpG_val (.int .i64 x) (by first | rfl | go_simp) (fun X hX => by have cc := hnv X ((hFw.trans0 hFd).trans0 hX); go_simp) ?_
      simp only [Act.put, List.setIfInBounds_toArray, List.set_cons_zero, List.set_cons_succ]
      iterate 4
        refine wpG_pure fun K hK => ?_
        go_simp
        refine hK _ ?_
        clear hK K
      refine wpG_one fun K hK => ?_
      go_simp
      refine (hkr _ (hFw.trans0 hFd)).mono ?_
      rintro e w3 ⟨rfl, hf3⟩
      refine hK _ _ (hf3) ?_
      clear hK K
      iterate 1
        refine wpG_pure fun K hK => ?_
        go_simp
        refine hK _ ?_
        clear hK K
      refine wpG_end ?_
      have hR3 := hR.fr0 (hFd.trans0 hf3)
      clear hR hFw hf3 hFd
      by_cases h1 : (y : Int) < x
      · have h2 : ¬ x < (y : Int) := by omega
        rw [if_pos h1] at Hm
        rw [if_neg h2, List.append_nil] at Hl
        have c5 := hR3.blk.cell
        have o5 := hR3.own.2.1 0 _ rfl
        go_wp2_with (at_builtin; refine Hid.out ?_)
        refine hidIt ?_
        refine wpList_append1 22 3 (.int .i64 0) 1 8 Try.underlying22 infoInt rfl (by decide) (by decide) rfl _ _ rfl w2.heap.size v0 _ _ rfl (o5.alloc _) (intC (j : Int)) rfl int_one w3.heap.size rfl (Blk.new w3 [_] _) (by simp only [List.getD_cons_zero]; omega) (by have := hR3.fr.size; simp; omega) ?_
        intro v' w9 hown9 hgrow9 hloc9
        have hmid := hR3.mid (i := 0) rfl hgrow9
        have hstep := hR3.step (i := 0) (x := (j : Int)) rfl hown9 hgrow9 hloc9
        obtain ⟨a9, c9, rfl, _⟩ := Sl.of_owns hown9
        clear c5
        have c5 := hmid.cell
        have f5 := hmid.frozen
        have l5 := hmid.lt
        simp only [List.getD_cons_zero, List.set_cons_zero] at hstep
        go_wp2_with fail
        clear c5 f5 l5 hmid hR3 hown9
        generalize w9.setCell ⟨w.heap.size + 1, 0, none⟩ (.slice a9 (M.length + 1) c9) = w5 at *
        have hFw := hfw _ hstep.fr
        have hFd : Fr [] w5 w5.drew := (Fr.refl _ _).drew
        refine wp_region_G (Fr [] w5.drew) [(true, 0), (true, 1), (true, 2), (true, 3), (true, 4), (true, 5), (true, 6), (true, 7), (false, 8), (true, 9)] (by as_aux_lemma => kernel_rfl) (by as_aux_lemma => kernel_rfl) (Fr.refl _ _) ?_
        simp only [inOrder, List.map_cons, List.map_nil, List.getD_cons_zero, List.getD_cons_succ]
        iterate 3
          refine wpG_pure fun K hK => ?_
          go_simp
          refine hK _ ?_
          clear hK K
        refine wpG_val (.int .i64 x) (by first | rfl | go_simp) (fun X hX => by have cc := hnv X ((hFw.trans0 hFd).trans0 hX); go_simp) ?_
        simp only [Act.put, List.setIfInBounds_toArray, List.set_cons_zero, List.set_cons_succ]
        iterate 4
          refine wpG_pure fun K hK => ?_
          go_simp
          refine hK _ ?_
          clear hK K
        refine wpG_one fun K hK => ?_
        go_simp
        refine (hkr _ (hFw.trans0 hFd)).mono ?_
        rintro e w6 ⟨rfl, hf3⟩
        refine hK _ _ (hf3) ?_
        clear hK K
        iterate 1
          refine wpG_pure fun K hK => ?_
          go_simp
          refine hK _ ?_
          clear hK K
        refine wpG_end ?_
        have hR6 := hstep.fr0 (hFd.trans0 hf3)
        clear hstep hFw hf3 hFd
        go_wp2
        go_roundw
        case rel => exact ⟨j + 1, _, _, by omega, by go_num, by rw [Hm.out, Hl.out]; exact hR6⟩
        case measure => simp [intOf]; omega
      · rw [if_neg h1, List.append_nil] at Hm
        go_wp2_with fail
        have hFw := hfw _ hR3.fr
        have hFd : Fr [] w3 w3.drew := (Fr.refl _ _).drew
        refine wp_region_G (Fr [] w3.drew) [(true, 0), (true, 1), (true, 2), (true, 3), (true, 4), (true, 5), (true, 6), (true, 7), (false, 8), (true, 9)] (by as_aux_lemma => kernel_rfl) (by as_aux_lemma => kernel_rfl) (Fr.refl _ _) ?_
        simp only [inOrder, List.map_cons, List.map_nil, List.getD_cons_zero, List.getD_cons_succ]
        iterate 3
          refine wpG_pure fun K hK => ?_
          go_simp
          refine hK _ ?_
          clear hK K
        refine wpG_val (.int .i64 x) (by first | rfl | go_simp) (fun X hX => by have cc := hnv X ((hFw.trans0 hFd).trans0 hX); go_simp) ?_
        simp only [Act.put, List.setIfInBounds_toArray, List.set_cons_zero, List.set_cons_succ]
        iterate 4
          refine wpG_pure fun K hK => ?_
          go_simp
          refine hK _ ?_
          clear hK K
        refine wpG_one fun K hK => ?_
        go_simp
        refine (hkr _ (hFw.trans0 hFd)).mono ?_
        rintro e w6 ⟨rfl, hf3⟩
        refine hK _ _ (hf3) ?_
        clear hK K
        iterate 1
          refine wpG_pure fun K hK => ?_
          go_simp
          refine hK _ ?_
          clear hK K
        refine wpG_end ?_
        have hR6 := hR3.fr0 (hFd.trans0 hf3)
        clear hR3 hFw hf3 hFd
        by_cases h2 : x < (y : Int)
        · rw [if_pos h2] at Hl
          have c5 := hR6.blk.cell
          have o5 := hR6.own.2.1 1 _ rfl
          go_wp2_with (at_builtin; refine Hid.out ?_)
          refine hidIt ?_
          refine wpList_append1 22 3 (.int .i64 0) 1 8 Try.underlying22 infoInt rfl (by decide) (by decide) rfl _ _ rfl w2.heap.size v1 _ _ rfl (o5.alloc _) (intC (j : Int)) rfl int_one w6.heap.size rfl (Blk.new w6 [_] _) (by simp only [List.getD_cons_zero, List.getD_cons_succ]; omega) (by have := hR6.fr.size; simp; omega) ?_
          intro v' w9 hown9 hgrow9 hloc9
          have hmid := hR6.mid (i := 1) rfl hgrow9
          have hstep := hR6.step (i := 1) (x := (j : Int)) rfl hown9 hgrow9 hloc9
          obtain ⟨a9, c9, rfl, _⟩ := Sl.of_owns hown9
          clear c5
          have c5 := hmid.cell
          have f5 := hmid.frozen
          have l5 := hmid.lt
          simp only [List.getD_cons_zero, List.getD_cons_succ, List.set_cons_zero, List.set_cons_succ] at hstep
          go_wp2
          go_roundw
          case rel => exact ⟨j + 1, _, _, by omega, by go_num, by rw [Hm.out, Hl.out]; exact hstep⟩
          case measure => simp [intOf]; omega
        · rw [if_neg h2, List.append_nil] at Hl
          go_wp2
          go_roundw
          case rel => exact ⟨j + 1, _, _, by omega, by go_num, by rw [Hm.out, Hl.out]; exact hR6⟩
          case measure => simp [intOf]; omega
    · have hje : j = n.length := by omega
      subst hje
      generalize hMM : pickTo (moreB n (rcL n.length ls.flatten)) n.length = M at *
      generalize hLL : pickTo (lessB n (rcL n.length ls.flatten)) n.length = L at *
      generalize hCC : rcL n.length ls.flatten = C at *
      generalize hfs : ls.flatten = fs at *
      have hfl : fs.length ≤ 1048576 := by omega
      clear hlt hj hFw
      go_wp2_with fail
      go_loopw [7, 8] (fun t i wr => ∃ (j : Nat) (v2 v3 : Value), j ≤ ls.length ∧ i = .int .i64 j ∧ t = .int .i64 (((ls.take j).map List.length).sum : Nat) ∧ Rep w2 wr (w.heap.size + 1) [v0, v1, v2, v3] [M, L, pickTo (badAt n.length fs) ((ls.take j).map List.length).sum, pickTo (wrongAt n.length fs (len0 ls)) ((ls.take j).map List.length).sum]) (fun _ i _ => ls.length - (intOf i).toNat)
      case atStart => exact ⟨0, _, _, Nat.zero_le _, rfl, rfl, hR⟩
      case round =>
        clear hR
        obtain ⟨i, v2, v3, hi, rfl, rfl, hR⟩ := hrel
        by_cases hlt : i < ls.length
        · have Hsum := hidIt (sum_take_succ hlt)
          generalize hT : ((ls.take i).map List.length).sum = T at *
          have hi' : (i : Int) < ls.length := by omega
          have hi0 : (0 : Int) ≤ i := by omega
          have hTb : T ≤ 1048576 := by
            have : ((ls.take i).map List.length).sum ≤ fs.length := by
              rw [← hfs, List.length_flatten]
              conv => rhs; rw [← List.take_append_drop i ls, List.map_append, List.sum_append]
              omega
            omega
          go_wp2_with fail
          go_loopw [7, 9] (fun t z wr => ∃ (k : Nat) (v2 v3 : Value), k ≤ (ls.getD i []).length ∧ z = .int .i64 k ∧ t = .int .i64 ((T + k : Nat) : Int) ∧ Rep w2 wr (w.heap.size + 1) [v0, v1, v2, v3] [M, L, pickTo (badAt n.length fs) (T + k), pickTo (wrongAt n.length fs (len0 ls)) (T + k)]) (fun _ z _ => (ls.getD i []).length - (intOf z).toNat)
          case atStart => exact ⟨0, _, _, Nat.zero_le _, rfl, rfl, hR⟩
          case round =>
            clear hR v2 v3
            obtain ⟨k, v2, v3, hk, rfl, rfl, hR⟩ := hrel
            by_cases hkl : k < (ls.getD i []).length
            · clear hk
              have hzr := hR.fr.size
              have hFw := hfw _ hR.fr
              obtain ⟨b, off, a2, cap2, rfl, hb, c0, hs2, hm2⟩ := SlR.at (hu.fr0 hFw) hlt
              obtain ⟨b3, off3, rfl, hb3, d0, d1, d2⟩ := SlS.at hs2 hkl
              have hget := flat_get ls i k hlt hkl
              have hflt := flat_lt ls i k hlt hkl
              have hrow := plain_row0 hlt hkl
              have Hbad := hidIt (pickTo_succ (badAt n.length fs) (T + k))
              have Hwr := hidIt (pickTo_succ (wrongAt n.length fs (len0 ls)) (T + k))
              have Hb : Hid (badAt n.length fs (T + k) = badS (fs.getD (T + k) zS) n.length) := hidIt rfl
              have Hw : Hid (wrongAt n.length fs (len0 ls) (T + k) = (hasS (fs.getD (T + k) zS) (n.length : Int) && wrongS C (decide (T + k < len0 ls)) (fs.getD (T + k) zS))) := hidIt (by unfold wrongAt; rw [hCC])
              have hp1 := pickTo_len (badAt n.length fs) (T + k)
              have hp2 := pickTo_len (wrongAt n.length fs (len0 ls)) (T + k)
              rw [hfs, hT] at hget
              rw [hT] at hrow
              rw [hfs, hT] at hflt
              have Hrow : Hid (decide (T + k < len0 ls) = decide (i = 0)) := hidIt (by simp only [hrow])
              rw [hget] at Hb Hw
              clear hget hrow
              generalize pickTo (badAt n.length fs) (T + k) = P2 at *
              generalize pickTo (wrongAt n.length fs (len0 ls)) (T + k) = P3 at *
              generalize (ls.getD i []).getD k zS = s at *
              generalize (ls.getD i []).length = ll at *
              obtain ⟨p, q, r⟩ := s
              simp only at d0 d1 d2
              have hk' : (k : Int) < ll := by omega
              have hk0 : (0 : Int) ≤ k := by omega
              have hTk : T + k ≤ 1048576 := by omega
              have Bt := Blk.new wr [.int .i64 p, .int .i64 q, .bool r] 44
              have hfa := (Fr.refl [] wr).alloc (.cells #[.int .i64 p, .int .i64 q, .bool r] 44)
              go_wp2_with fail
              refine (rBad_calls p q r (n.length : Int) _).mono ?_
              rintro e w3 ⟨rfl, hf3⟩
              have hR3 := hR.fr0 (hfa.trans0 hf3)
              have Bt3 := Bt.fr0 hf3
              clear hfa hf3 hR Bt c0 d0 d1 d2 hs2 hFw hb hb3
              cases hbd : badS (p, q, r) (n.length : Int) with
              | true =>
                have hh := has_not_bad hbd
                rw [hbd] at Hb
                rw [Hb.out, if_pos rfl] at Hbad
                rw [hh, Bool.false_and] at Hw
                rw [Hw.out, if_neg (by simp), List.append_nil] at Hwr
                clear Hw Hb Hrow
                have c5 := hR3.blk.cell
                have o5 := hR3.own.2.1 2 _ rfl
                have hnb := own_ne_blk o5 Bt3 (by decide)
                have htb := hR3.lt
                have hzz := hR3.fr.size
                go_wp2_with (at_builtin; refine Hid.out ?_)
                refine hidIt ?_
                refine wpList_append1 22 3 (.int .i64 0) 1 8 Try.underlying22 infoInt rfl (by decide) (by decide) rfl _ _ rfl w2.heap.size v2 _ _ rfl (o5.alloc _) (intC ((T + k : Nat) : Int)) rfl int_one w3.heap.size rfl (Blk.new w3 [_] _) (by simp only [List.getD_cons_zero, List.getD_cons_succ]; omega) (by simp; omega) ?_
                intro v' w9 hown9 hgrow9 hloc9
                have hmid := hR3.mid (i := 2) rfl hgrow9
                have hR5 := hR3.step (i := 2) (x := ((T + k : Nat) : Int)) rfl hown9 hgrow9 hloc9
                have Bt9 := (Bt3.alloc (.cells #[.int .i64 ((T + k : Nat) : Int)] 3)).fr (Fr.of_grown hgrow9) hnb
                have hne1 : wr.heap.size ≠ w.heap.size + 1 := by omega
                have hne2 : w.heap.size + 1 ≠ wr.heap.size := by omega
                have Bt5 := Bt9.other (p := ⟨w.heap.size + 1, 2, none⟩) (by simp; omega) v'
                obtain ⟨a9, c9, rfl, _⟩ := Sl.of_owns hown9
                clear c5
                have c5 := hmid.cell
                have f5 := hmid.frozen
                have l5 := hmid.lt
                simp only [List.getD_cons_zero, List.getD_cons_succ, List.set_cons_zero, List.set_cons_succ] at hR5 Bt5
                clear o5 hnb hgrow9 hloc9 hown9 hR3 Bt3
                have ct := Bt9.cell
                go_wp2_with fail
                clear c5 f5 l5 hmid htb hzz ct Bt9
                generalize w9.setCell ⟨w.heap.size + 1, 2, none⟩ (.slice a9 (P2.length + 1) c9) = w5 at *
                have hFw := hfw _ hR5.fr
                have ct := Bt5.cell
                refine (kR q _ hFw).mono ?_
                rintro e w6 ⟨rfl, hf6⟩
                have hR6 := hR5.fr0 hf6
                have Bt6 := Bt5.fr0 hf6
                clear hR5 Bt5 ct hFw hf6
                have ct := Bt6.cell
                have kH := rHas_calls p q r (n.length : Int) w6
                rw [hh] at kH
                go_wp2_with fail
                refine kH.mono ?_
                rintro e w7 ⟨rfl, hf7⟩
                have hR7 := hR6.fr0 hf7
                have Bt7 := Bt6.fr0 hf7
                clear hR6 Bt6 ct hf7 kH
                have ct := Bt7.cell
                go_wp2
                go_roundw
                case rel => exact ⟨k + 1, _, _, by omega, by go_num, by go_num, by rw [← Nat.add_assoc, Hbad.out, Hwr.out]; exact hR7⟩
                case measure => simp [intOf]; omega
              | false =>
                rw [hbd] at Hb
                rw [Hb.out, if_neg (by simp), List.append_nil] at Hbad
                clear Hb
                cases hh : hasS (p, q, r) (n.length : Int) with
                | false =>
                  rw [hh, Bool.false_and] at Hw
                  rw [Hw.out, if_neg (by simp), List.append_nil] at Hwr
                  clear Hw Hrow
                  have hFw := hfw _ hR3.fr
                  have ct := Bt3.cell
                  go_wp2_with fail
                  refine (kR q _ hFw).mono ?_
                  rintro e w6 ⟨rfl, hf6⟩
                  have hR6 := hR3.fr0 hf6
                  have Bt6 := Bt3.fr0 hf6
                  clear hR3 Bt3 ct hFw hf6
                  have ct := Bt6.cell
                  have kH := rHas_calls p q r (n.length : Int) w6
                  rw [hh] at kH
                  go_wp2_with fail
                  refine kH.mono ?_
                  rintro e w7 ⟨rfl, hf7⟩
                  have hR7 := hR6.fr0 hf7
                  have Bt7 := Bt6.fr0 hf7
                  clear hR6 Bt6 ct hf7 kH
                  have ct := Bt7.cell
                  go_wp2
                  go_roundw
                  case rel => exact ⟨k + 1, _, _, by omega, by go_num, by go_num, by rw [← Nat.add_assoc, Hbad.out, Hwr.out]; exact hR7⟩
                  case measure => simp [intOf]; omega
                | true =>
                  obtain ⟨H, hqH, hHm⟩ := has_host (m := n.length) hh
                  simp only at hqH
                  subst hqH
                  rw [hh, Bool.true_and] at Hw
                  unfold wrongS at Hw
                  simp only [Int.toNat_natCast] at Hw
                  rw [hcg H hHm, Hrow.out] at Hw
                  clear hcg Hrow
                  have hFw := hfw _ hR3.fr
                  have ct := Bt3.cell
                  go_wp2_with fail
                  refine (kR (H : Int) _ hFw).mono ?_
                  rintro e w6 ⟨rfl, hf6⟩
                  have hR6 := hR3.fr0 hf6
                  have Bt6 := Bt3.fr0 hf6
                  clear hR3 Bt3 ct hFw hf6
                  have ct := Bt6.cell
                  have kH := rHas_calls p (H : Int) r (n.length : Int) w6
                  rw [hh] at kH
                  go_wp2_with fail
                  refine kH.mono ?_
                  rintro e w7 ⟨rfl, hf7⟩
                  have hR7 := hR6.fr0 hf7
                  have Bt7 := Bt6.fr0 hf7
                  clear hR6 Bt6 ct hf7 kH
                  have ct := Bt7.cell
                  have hrb := hrcb (H : Int)
                  generalize rc1 (n.length : Int) (H : Int) fs = y at *
                  clear hrcb
                  by_cases hy : y = 1
                  · subst hy
                    have hyb : (((1 : Nat) : Int) == 1) = true := rfl
                    rw [hyb] at Hw
                    cases r with
                    | true =>
                      simp only [if_true, Bool.not_true] at Hw
                      rw [Hw.out, if_neg (by simp), List.append_nil] at Hwr
                      clear Hw
                      go_wp2
                      go_roundw
                      case rel => exact ⟨k + 1, _, _, by omega, by go_num, by go_num, by rw [← Nat.add_assoc, Hbad.out, Hwr.out]; exact hR7⟩
                      case measure => simp [intOf]; omega
                    | false =>
                      simp only [Bool.false_eq_true, if_false, Bool.and_true] at Hw
                      by_cases h0 : i = 0
                      · rw [decide_eq_true h0] at Hw
                        rw [Hw.out, if_pos rfl] at Hwr
                        have h1 : ((i : Int) == 0) = true := by simp; omega
                        clear Hw h0
                        have c5 := hR7.blk.cell
                        have o5 := hR7.own.2.1 3 _ rfl
                        have hnb := own_ne_blk o5 Bt7 (by decide)
                        have htb := hR7.lt
                        have hzz := hR7.fr.size
                        go_wp2_with (at_builtin; refine Hid.out ?_)
                        refine hidIt ?_
                        refine wpList_append1 22 3 (.int .i64 0) 1 8 Try.underlying22 infoInt rfl (by decide) (by decide) rfl _ _ rfl w2.heap.size v3 _ _ rfl (o5.alloc _) (intC ((T + k : Nat) : Int)) rfl int_one w7.heap.size rfl (Blk.new w7 [_] _) (by simp only [List.getD_cons_zero, List.getD_cons_succ]; omega) (by simp; omega) ?_
                        intro v' w9 hown9 hgrow9 hloc9
                        have hmid := hR7.mid (i := 3) rfl hgrow9
                        have hR8 := hR7.step (i := 3) (x := ((T + k : Nat) : Int)) rfl hown9 hgrow9 hloc9
                        have Bt9 := (Bt7.alloc (.cells #[.int .i64 ((T + k : Nat) : Int)] 3)).fr (Fr.of_grown hgrow9) hnb
                        have hne1 : wr.heap.size ≠ w.heap.size + 1 := by omega
                        have hne2 : w.heap.size + 1 ≠ wr.heap.size := by omega
                        have Bt8 := Bt9.other (p := ⟨w.heap.size + 1, 3, none⟩) (by simp; omega) v'
                        obtain ⟨a9, c9, rfl, _⟩ := Sl.of_owns hown9
                        clear c5
                        have c5 := hmid.cell
                        have f5 := hmid.frozen
                        have l5 := hmid.lt
                        simp only [List.getD_cons_zero, List.getD_cons_succ, List.set_cons_zero, List.set_cons_succ] at hR8 Bt8
                        clear o5 hnb hgrow9 hloc9 hown9 hR7 Bt7
                        have ct := Bt9.cell
                        go_wp2_with fail
                        clear c5 f5 l5 hmid htb hzz ct Bt9
                        generalize w9.setCell ⟨w.heap.size + 1, 3, none⟩ (.slice a9 (P3.length + 1) c9) = w8 at *
                        go_wp2
                        go_roundw
                        case rel => exact ⟨k + 1, _, _, by omega, by go_num, by go_num, by rw [← Nat.add_assoc, Hbad.out, Hwr.out]; exact hR8⟩
                        case measure => simp [intOf]; omega
                      · rw [decide_eq_false h0] at Hw
                        rw [Hw.out, if_neg (by simp), List.append_nil] at Hwr
                        have h1 : ((i : Int) == 0) = false := by simp; omega
                        clear Hw h0
                        go_wp2
                        go_roundw
                        case rel => exact ⟨k + 1, _, _, by omega, by go_num, by go_num, by rw [← Nat.add_assoc, Hbad.out, Hwr.out]; exact hR7⟩
                        case measure => simp [intOf]; omega
                  · have hyb : ((y : Int) == 1) = false := by simp; omega
                    rw [hyb] at Hw
                    cases r with
                    | true =>
                      simp only [if_true, Bool.not_false] at Hw
                      rw [Hw.out, if_pos rfl] at Hwr
                      clear Hw
                      have c5 := hR7.blk.cell
                      have o5 := hR7.own.2.1 3 _ rfl
                      have hnb := own_ne_blk o5 Bt7 (by decide)
                      have htb := hR7.lt
                      have hzz := hR7.fr.size
                      go_wp2_with (at_builtin; refine Hid.out ?_)
                      refine hidIt ?_
                      refine wpList_append1 22 3 (.int .i64 0) 1 8 Try.underlying22 infoInt rfl (by decide) (by decide) rfl _ _ rfl w2.heap.size v3 _ _ rfl (o5.alloc _) (intC ((T + k : Nat) : Int)) rfl int_one w7.heap.size rfl (Blk.new w7 [_] _) (by simp only [List.getD_cons_zero, List.getD_cons_succ]; omega) (by simp; omega) ?_
                      intro v' w9 hown9 hgrow9 hloc9
                      have hmid := hR7.mid (i := 3) rfl hgrow9
                      have hR8 := hR7.step (i := 3) (x := ((T + k : Nat) : Int)) rfl hown9 hgrow9 hloc9
                      have Bt9 := (Bt7.alloc (.cells #[.int .i64 ((T + k : Nat) : Int)] 3)).fr (Fr.of_grown hgrow9) hnb
                      have hne1 : wr.heap.size ≠ w.heap.size + 1 := by omega
                      have hne2 : w.heap.size + 1 ≠ wr.heap.size := by omega
                      have Bt8 := Bt9.other (p := ⟨w.heap.size + 1, 3, none⟩) (by simp; omega) v'
                      obtain ⟨a9, c9, rfl, _⟩ := Sl.of_owns hown9
                      clear c5
                      have c5 := hmid.cell
                      have f5 := hmid.frozen
                      have l5 := hmid.lt
                      simp only [List.getD_cons_zero, List.getD_cons_succ, List.set_cons_zero, List.set_cons_succ] at hR8 Bt8
                      clear o5 hnb hgrow9 hloc9 hown9 hR7 Bt7
                      have ct := Bt9.cell
                      go_wp2_with fail
                      clear c5 f5 l5 hmid htb hzz ct Bt9
                      generalize w9.setCell ⟨w.heap.size + 1, 3, none⟩ (.slice a9 (P3.length + 1) c9) = w8 at *
                      go_wp2
                      go_roundw
                      case rel => exact ⟨k + 1, _, _, by omega, by go_num, by go_num, by rw [← Nat.add_assoc, Hbad.out, Hwr.out]; exact hR8⟩
                      case measure => simp [intOf]; omega
                    | false =>
                      simp only [Bool.false_eq_true, if_false, Bool.and_false] at Hw
                      rw [Hw.out, if_neg (by simp), List.append_nil] at Hwr
                      clear Hw
                      go_wp2
                      go_roundw
                      case rel => exact ⟨k + 1, _, _, by omega, by go_num, by go_num, by rw [← Nat.add_assoc, Hbad.out, Hwr.out]; exact hR7⟩
                      case measure => simp [intOf]; omega
            · have hke : k = (ls.getD i []).length := by omega
              have Hs2 : Hid (((ls.take (i + 1)).map List.length).sum = T + k) := hidIt (by rw [Hsum.out, hke])
              have hFw := hfw _ hR.fr
              obtain ⟨b, off, a2, cap2, rfl, hb, c0, hs2, hm2⟩ := SlR.at (hu.fr0 hFw) hlt
              generalize (ls.getD i []).length = ll at *
              subst hke
              clear hs2 Hsum
              go_wp2
              go_roundw
              case rel => exact ⟨i + 1, v2, v3, by omega, by go_num, by rw [Hs2.out], by rw [Hs2.out]; exact hR⟩
              case measure => simp [intOf]; omega
        · have hie : i = ls.length := by omega
          subst hie
          have hsum : ((ls.take ls.length).map List.length).sum = fs.length := by rw [List.take_length, ← hfs, List.length_flatten]
          rw [hsum] at hR
          have hO0 := hR.own.2.1 0 _ rfl
          have hO1 := hR.own.2.1 1 _ rfl
          have hO2 := hR.own.2.1 2 _ rfl
          have hO3 := hR.own.2.1 3 _ rfl
          simp only [List.getD_cons_zero, List.getD_cons_succ] at hO0 hO1 hO2 hO3
          have m0 := own_base hO0
          have m1 := own_base hO1
          have m2 := own_base hO2
          have m3 := own_base hO3
          have s0 : SlI wr v0 M := SlF.of_owns hO0
          have s1 : SlI wr v1 L := SlF.of_owns hO1
          have s2 : SlI wr v2 (pickTo (badAt n.length fs) fs.length) := SlF.of_owns hO2
          have s3 : SlI wr v3 (pickTo (wrongAt n.length fs (len0 ls)) fs.length) := SlF.of_owns hO3
          generalize hP2 : pickTo (badAt n.length fs) fs.length = P2 at *
          generalize hP3 : pickTo (wrongAt n.length fs (len0 ls)) fs.length = P3 at *
          obtain ⟨a0, p0, rfl, _⟩ := s0.open
          obtain ⟨a1, p1, rfl, _⟩ := s1.open
          obtain ⟨a2, p2, rfl, _⟩ := s2.open
          obtain ⟨a3, p3, rfl, _⟩ := s3.open
          have h4 := B4.fr hR.fr (by simp)
          have c5 := hR.blk.cell
          have c4 := h4.cell
          have f4 := h4.frozen
          have l4 := h4.lt
          have hFw := hfw _ hR.fr
          clear hO0 hO1 hO2 hO3 kR hcg hrcb hsum
          go_wp2
          have hs4 : Fr [w.heap.size] wr ((((wr.setCell ⟨w.heap.size, 0, none⟩ (.slice a0 M.length p0)).setCell ⟨w.heap.size, 1, none⟩ (.slice a1 L.length p1)).setCell ⟨w.heap.size, 2, none⟩ (.slice a2 P2.length p2)).setCell ⟨w.heap.size, 3, none⟩ (.slice a3 P3.length p3)) := ((((Fr.refl _ wr).setCell (.inl (by simp)) _).setCell (.inl (by simp)) _).setCell (.inl (by simp)) _).setCell (.inl (by simp)) _
          have h4' := (((h4.setCell 0 (.slice a0 M.length p0)).setCell 1 (.slice a1 L.length p1)).setCell 2 (.slice a2 P2.length p2)).setCell 3 (.slice a3 P3.length p3)
          simp only [List.set_cons_zero, List.set_cons_succ] at h4'
          have hfw4 := hFw.trans hs4 (fun x hx hl => by have := List.mem_singleton.1 hx; omega)
          have c4' := h4'.cell
          have low : ∀ (v : Value), (∀ k, v.ownBlock = some k → w2.heap.size ≤ k) → ∀ k, v.ownBlock = some k → k ∉ [w.heap.size] := fun v h k hk hm => by have := h k hk; have := List.mem_singleton.1 hm; omega
          refine bodyPost_ret (v := .agg #[.slice a0 M.length p0, .slice a1 L.length p1, .slice a2 P2.length p2, .slice a3 P3.length p3]) (by simp [results, Try.results12, go_sem, c4']) rfl ⟨_, _, _, _, rfl, (by rw [hfs, hCC, hMM]; exact SlF.fr s0 hs4 (low _ m0)), (by rw [hfs, hCC, hLL]; exact SlF.fr s1 hs4 (low _ m1)), (by rw [hfs, hP2]; exact SlF.fr s2 hs4 (low _ m2)), (by rw [hfs, hP3]; exact SlF.fr s3 hs4 (low _ m3)), hfw4, fun b hb => by
            rcases hb with h | h | h | h
            · have := m0 b h; omega
            · have := m1 b h; omega
            · have := m2 b h; omega
            · have := m3 b h; omega⟩
end Go.Proofs.Ytmbbmombhkaeoaa
