/-
  law08.TableRoom: the plain law and the walk.
-/
import Derived.Test.YtknbjdbdpdbeiaaTabEW
import Derived.Test.YtknbjdbdpdbeiaaMarks
import Derived.Test.YtknbjdbdpdbeiaaLaw08
import Derived.Test.YtknbjdbdpdbeiaaHeld
import Derived.Test.YtknbjdbdpdbeiaaOpenP
namespace Go.Proofs.Ytknbjdbdpdbeiaa
open Go.RowKit Go.Maps
attribute [local go_sem] Oper.semAt_some

/-! ### the plain law -/
theorem isL_lt {l : List Slt} {c : Nat} (h : isL l c = true) : c < l.length := by
  rcases Nat.lt_or_ge c l.length with h1 | h1
  · exact h1
  · unfold isL at h
    rw [List.getD_eq_getElem?_getD, List.getElem?_eq_none h1] at h
    simp [zS] at h
theorem kept_one {l : List Slt} {g : Nat} (h : keptG l g = true) : ∃ i, i < 16 ∧ isL l (16 * g + i) = true := by
  obtain ⟨s, hs, h1⟩ := List.any_eq_true.1 h
  obtain ⟨i, hi, rfl⟩ := List.mem_map.1 hs
  exact ⟨i, List.mem_range.1 hi, h1⟩
theorem keptL_ge {l : List Slt} : ∀ j, j < (keptL l).length → j ≤ (keptL l).getD j 0
  | 0, _ => Nat.zero_le _
  | j + 1, h => by
    have := keptL_ge (l := l) j (by omega)
    have := keptL_mono h (Nat.lt_succ_self j)
    omega
theorem groups_le (l : List Slt) : groups l ≤ (l.length + 15) / 16 := by
  show (keptL l).length ≤ _
  rcases Nat.eq_zero_or_pos (keptL l).length with h | h
  · omega
  · have h1 := keptL_ge (l := l) ((keptL l).length - 1) (by omega)
    obtain ⟨i, hi, hl⟩ := kept_one (keptL_getD (by omega : (keptL l).length - 1 < (keptL l).length)).2
    have := isL_lt hl
    omega
theorem cnt_mono {l : List Slt} (a : Nat) : ∀ b, a ≤ b → b ≤ 256 → cntL l a ≤ cntL l b
  | b, hab, hb => by
    by_cases e : a = b
    · rw [e]; exact Nat.le_refl _
    · obtain ⟨m, rfl⟩ : ∃ m, b = m + 1 := ⟨b - 1, by omega⟩
      have ih := cnt_mono (l := l) a m (by omega) (by omega)
      cases hm : isL l m with
      | true => have := (cnt_next (by omega : m < 256) hm).2.2; omega
      | false => have := cnt_skip (by omega : m < 256) hm; omega
  termination_by b => b
theorem cnt_ge {l : List Slt} : ∀ j, j ≤ (keptL l).length → j ≤ cntL l (begL l j)
  | 0, _ => Nat.zero_le _
  | j + 1, h => by
    have ih := cnt_ge (l := l) j (by omega)
    have hk := keptL_getD (by omega : j < (keptL l).length)
    rw [← cnt_group (by omega : j < (keptL l).length)]
    have hb : begL l j = 16 * (keptL l).getD j 0 := by unfold begL; rw [if_pos (by omega)]
    rw [hb] at ih
    obtain ⟨i, hi, hl⟩ := kept_one hk.2
    have h1 := cnt_mono (l := l) (16 * (keptL l).getD j 0) (16 * (keptL l).getD j 0 + i) (by omega) (by omega)
    have h2 := (cnt_next (by omega : 16 * (keptL l).getD j 0 + i < 256) hl).2.2
    have h3 := cnt_mono (l := l) (16 * (keptL l).getD j 0 + i + 1) (16 * (keptL l).getD j 0 + 16) (by omega) (by omega)
    omega
theorem groups_listed (l : List Slt) : groups l ≤ (listed l).length := by
  have := cnt_ge (l := l) (keptL l).length (Nat.le_refl _)
  rw [show begL l (keptL l).length = 256 by unfold begL; rw [if_neg (Nat.lt_irrefl _)], cnt_end] at this
  exact this
theorem groups_some {l : List Slt} (h : 0 < (listed l).length) : 0 < groups l := by
  obtain ⟨c, hc⟩ := List.exists_mem_of_length_pos h
  obtain ⟨h1, h2⟩ := List.mem_filter.1 hc
  have h3 := List.mem_range.1 h1
  have hk : keptG l (c / 16) = true := by
    cases hk : keptG l (c / 16) with
    | true => rfl
    | false => rw [not_kept hk] at h2; cases h2
  exact List.length_pos_of_mem (keptL_mem.2 ⟨by omega, hk⟩)
theorem listed_le (l : List Slt) : (listed l).length ≤ 256 := Nat.le_trans (List.length_filter_le _ _) (by simp)
/-! ### the walk -/
set_option maxRecDepth 100000 in
set_option maxHeartbeats 1600000 in
theorem TableRoom_no (n : Int) (v : Value) (ops : List Opr) (w : World) (hv : SlO w v ops) (h : (okSize n && decide (ops.length ≤ 100)) = false) : Calls Try.prog 6 #[.int .i64 n, v] w fun e w' => e = .returned (.bool true) ∧ Fr [] w w' := by
  obtain ⟨a, cap, rfl, hlc, hcm, _⟩ := hv.open
  cases hn : okSize n with
  | false =>
    have key := New_no n w hn
    clear h
    refine calls_marks Try.func6 rfl ?_
    simp only [Try.ntmps6, List.size_toArray, List.length_cons, List.length_nil, Nat.reduceAdd, Nat.reduceSub, Array.replicate_succ, Array.replicate_zero, List.push_toArray, List.append_toArray, List.nil_append, List.cons_append]
    go_wp2_with fail
    refine key.mono ?_
    rintro e w1 ⟨rfl, rfl⟩
    go_wp2_with fail
    refine (alive_calls _).mono ?_
    rintro e w2 ⟨rfl, hf⟩
    go_wp2
    exact leave_plain rfl (results_tmp rfl _ _ _) ⟨rfl, hf⟩
  | true =>
    have hlen : (100 : Int) < ops.length := by rw [hn] at h; simp at h; omega
    have key := New_yes n w hn
    clear h
    refine calls_marks Try.func6 rfl ?_
    simp only [Try.ntmps6, List.size_toArray, List.length_cons, List.length_nil, Nat.reduceAdd, Nat.reduceSub, Array.replicate_succ, Array.replicate_zero, List.push_toArray, List.append_toArray, List.nil_append, List.cons_append]
    go_wp2_with fail
    refine key.mono ?_
    rintro e w1 ⟨tb, mb, rfl, ht, hm, hT, hf⟩
    go_wp2_with fail
    refine (alive_calls _).mono ?_
    rintro e w2 ⟨rfl, hf2⟩
    go_wp2
    exact leave_plain rfl (results_tmp rfl _ _ _) ⟨rfl, hf.trans0 hf2⟩
set_option maxRecDepth 100000 in
set_option maxHeartbeats 4000000 in
theorem TableRoom_yes (n : Int) (v : Value) (ops : List Opr) (w : World) (hv : SlO w v ops) (h : okSize n = true) (hlen : ops.length ≤ 100) : Calls Try.prog 6 #[.int .i64 n, v] w fun e w' => e = .returned (.bool true) ∧ Fr [] w w' := by
  obtain ⟨av, cap, rfl, hlc, hcm, _⟩ := hv.open
  have key := New_yes n w h
  refine calls_marks Try.func6 rfl ?_
  simp only [Try.ntmps6, List.size_toArray, List.length_cons, List.length_nil, Nat.reduceAdd, Nat.reduceSub, Array.replicate_succ, Array.replicate_zero, List.push_toArray, List.append_toArray, List.nil_append, List.cons_append]
  go_wp2_with fail
  refine key.mono ?_
  rintro e w1 ⟨tb, mb, rfl, ht, hm, hT, hf⟩
  clear key
  generalize List.replicate n.toNat zS = l0 at *
  go_wp2_with fail
  have tl1 := hT.lt
  have hz1 := hf.size
  refine wp_loop (fun a W => ∃ (k : Nat) (L : List Slt) (Ds : List Nat) (u0 u1 u2 u3 u4 u6 u7 u8 u9 u10 u11 u12 u13 u14 u15 u16 u17 u18 u19 u20 u21 u22 u23 u24 u25 u26 u29 u30 u31 u32 u33 u34 u35 u36 u37 u38 u39 u40 u41 u42 u43 u44 u45 u46 u47 u48 u49 u50 u51 u52 u53 u54 u55 u56 u57 u58 u59 u60 u61 u62 u63 u64 u65 : Value), a = { tmps := #[u0, u1, u2, u3, u4, .pointer (some ⟨tb, 0, none⟩), u6, u7, u8, u9, u10, u11, u12, u13, u14, u15, u16, u17, u18, u19, u20, u21, u22, u23, u24, u25, u26, .slice av ops.length cap, .int .i64 ops.length, u29, u30, u31, u32, u33, u34, u35, u36, u37, u38, u39, u40, u41, u42, u43, u44, u45, u46, u47, u48, u49, u50, u51, u52, u53, u54, u55, u56, u57, u58, u59, u60, u61, u62, u63, u64, u65], defers := Ds.map markOf } ∧ u29 = .int .i64 k ∧ k ≤ ops.length ∧ TabW W tb mb L ∧ Marks w1.heap.size Ds W ∧ Fr [] w W ∧ w1.heap.size ≤ W.heap.size)
    (fun a _ => ops.length - (intOf (a.tmps.getD 29 undef)).toNat) ⟨0, l0, [], _, _, _, _, _, _, _, _, _, _, _, _, _, _, _, _, _, _, _, _, _, _, _, _, _, _, _, _, _, _, _, _, _, _, _, _, _, _, _, _, _, _, _, _, _, _, _, _, _, _, _, _, _, _, _, _, _, _, _, _, _, _, _, rfl, rfl, Nat.zero_le _, hT, Marks.nil _ _, hf, Nat.le_refl _⟩ ?_
  clear hT
  rintro a wr ⟨k, L, Ds, u0, u1, u2, u3, u4, u6, u7, u8, u9, u10, u11, u12, u13, u14, u15, u16, u17, u18, u19, u20, u21, u22, u23, u24, u25, u26, u29, u30, u31, u32, u33, u34, u35, u36, u37, u38, u39, u40, u41, u42, u43, u44, u45, u46, u47, u48, u49, u50, u51, u52, u53, u54, u55, u56, u57, u58, u59, u60, u61, u62, u63, u64, u65, rfl, rfl, hk, hT, hMk, hF, hzz⟩
  by_cases hlt : k < ops.length
  · obtain ⟨b, off, rfl, hb, c0, c1, c2, c3, c4⟩ := SlO.at (hv.fr0 hF) hlt
    generalize ops.getD k _ = o at *
    obtain ⟨oq, oc, ok, oh, oo⟩ := o
    simp only at c0 c1 c2 c3 c4
    have hfa := (Fr.refl [] wr).alloc (.cells #[.int .i64 oq, .int .i64 oc, .int .i64 ok, .int .i64 oh, .bool oo] 34)
    have keyD := does_calls tb mb L oq oc ok oh oo _ (hT.fr0 hfa)
    unfold doesPost at keyD
    generalize tDo L (oq, oc, ok, oh, oo) = r at *
    obtain ⟨L3, r2, r3⟩ := r
    simp only at keyD
    go_wp2_with fail
    refine keyD.mono ?_
    rintro e w3 ⟨v3, rfl, _, hT3, hf3⟩
    have hMk3 : Marks w1.heap.size Ds w3 := (hMk.fr0 hfa).fr hf3 (fun D hD hm => by have := hMk.ge D hD; simp at hm; omega)
    have hF3 : Fr [] w w3 := (hF.trans0 hfa).trans hf3 (fun x hx hl => by simp at hx; omega)
    have tl3 := hT3.lt
    have hM3 := hMk3.lt
    have hz3 : wr.heap.size ≤ w3.heap.size := Nat.le_trans hfa.size hf3.size
    have B9 := Blk.new w3 [.int .i64 0] 3
    have hfb := (Fr.refl [] w3).alloc (.cells #[.int .i64 0] 3)
    clear keyD c0 c1 c2 c3 c4 hfa hf3 hMk hT hF hb hv
    go_wp2_with fail
    refine (tEach_calls tb _).mono ?_
    rintro e w4 ⟨bt, rfl, hbt, hf4, hb4⟩
    have hf34 := hfb.trans0 hf4
    have B9b := B9.fr0 hf4
    have hT4 := hT3.fr0 hf34
    have hMk4 := hMk3.fr0 hf34
    have hF4 := hF3.trans0 hf34
    simp only [World.size_alloc] at hb4
    have lt9 := B9b.lt
    have ltb := hbt.lt
    have hsz4 := hf34.size
    have hszw := hF4.size
    have hM4 := hMk4.lt
    have hseq := tEach_seq bt tb mb L3 w4 hbt hT4
    have hN := listed_le L3
    have P1 := groups_listed L3
    have P2 := groups_some (l := L3)
    have P3 := groups_le L3
    have hLen := hT4.len
    have heg : ∀ args w, (callFunc 38 args).run Try.prog w = .ok (.enter 38 args) w := enters_of Try.func38 (by kernel_rfl) rfl
    have keyG := fun X (h : TabW X tb mb L3) => Groups_calls tb mb L3 X h
    generalize groups L3 = GR at *
    generalize (listed L3).length = N at *
    clear hfb hf4 hf34 B9 hT3 hMk3 hF3 hbt
    go_wp2_with fail
    refine wp_rangeFunc_seq rfl heg hseq (Fr.refl _ _) (fun kk f A => f = [w3.heap.size] ∧ Blk A w3.heap.size [.int .i64 (kk : Nat)] 3 ∧ TabW A tb mb L3 ∧ Marks w1.heap.size Ds A ∧ Fr [] w A) (fun _ _ _ => False) [w3.heap.size] ?st (fun _ _ _ _ _ h _ _ => h) (by simp) (fun x hx => by have := List.mem_singleton.1 hx; subst this; exact ⟨by omega, fun h => by omega⟩) ⟨rfl, B9b, hT4, hMk4, hF4⟩ ?round ?done (fun _ _ _ _ _ _ h _ => h.elim)
    case st =>
      rintro kk f A B M' ⟨rfl, hb, hT, hM, hf⟩ hF hM'
      have nm : ∀ x, x < w4.heap.size → x ∉ M' := fun x hx hm => by rcases hM' x hm with h | h; cases h; omega
      exact ⟨rfl, stab_blk hb hF hM' lt9 (by simp), hT.fr hF (nm _ (by omega)) (nm _ (by omega)), hM.fr hF (fun D hD => nm D (hM4 D hD)), hf.trans hF (fun x hx hl => absurd hx (nm x (by omega)))⟩
    case round =>
      rintro lp kk f A args h1 h2 h3 h4 hkk ⟨rfl, hb, hT, hM, hf⟩ rfl
      refine ⟨rfl, ?_⟩
      clear hseq heg P1 P2 P3
      gi_wp2
      refine ⟨⟨trivial, hb, hT, hM, hf⟩, Fr.refl _ _, ?_⟩
      clear hb hT hM hf
      rintro A2 ⟨_, hb, hT, hM, hf⟩ hF2 hsz2
      have c5 := hb.cell
      have f5 := hb.frozen
      have l5 := hb.lt
      have hw1 : IntKind.i64.wrap ((kk : Int) + 1) = kk + 1 := IntWalk.i64_in _ (by omega)
      gi_wp2
      have hs := Fr.set1 A2 w3.heap.size (.int .i64 ((kk : Int) + 1))
      exact ⟨_, ⟨rfl, hb.setCell 0 (.int .i64 ((kk : Int) + 1)), hT.fr hs (by simp; omega) (by simp; omega), hM.fr hs (fun D hD hm => by have := List.mem_singleton.1 hm; have := hM3 D hD; omega), hf.setCell (.inr (by show w.heap.size ≤ w3.heap.size; omega)) _⟩, hs, fun x hx => by have := List.mem_singleton.1 hx; subst this; exact ⟨by simp; omega, .inl hx⟩⟩
    case done =>
      rintro D f W hD1 hD2 ⟨rfl, hb, hT, hM, hf⟩ hK
      have hMd := hM.cons hK (by omega) (fun h => by have := hM4 D h; omega)
      clear hseq heg hMk4 hM hK hM4
      have hFd : Fr [] W W.drew := (Fr.refl _ _).drew
      have hbd := hb.fr0 hFd
      have hTd := hT.fr0 hFd
      have hMdd := hMd.fr0 hFd
      have hfd := hf.trans0 hFd
      have hzd : w1.heap.size ≤ W.heap.size := by have := hb.lt; omega
      have keyL := fun X (h : TabW X tb mb L3) => Len_calls tb mb L3 X h
      have d1 : ∀ i : Decidable ((N : Int) < (GR : Int)), @decide _ i = false := fun i => @decide_eq_false _ i (by omega)
      have d5 : ∀ i : Decidable (IntKind.i64.wrap ((IntKind.i64.wrap ((L3.length : Int) + 15)).tdiv 16) < (GR : Int)), @decide _ i = false := fun i => @decide_eq_false _ i (by
        rw [IntWalk.i64_in ((L3.length : Int) + 15) (by omega), Int.tdiv_eq_ediv_of_nonneg (by omega), IntWalk.i64_in _ (by omega)]
        omega)
      go_wp2_with fail
      rcases Nat.eq_zero_or_pos N with hN0 | hN0
      · have d1n : ∀ i : Decidable (0 < GR), @decide _ i = false := fun i => @decide_eq_false _ i (by omega)
        have d2n : ∀ i : Decidable (0 < N), @decide _ i = false := fun i => @decide_eq_false _ i (by omega)
        have d2 : ∀ i : Decidable ((0 : Int) < (N : Int)), @decide _ i = false := fun i => @decide_eq_false _ i (by omega)
        refine wp_region_F [(true, 0), (true, 2), (false, 1), (true, 3), (true, 4), (true, 5), (true, 6), (true, 7), (true, 8), (false, 9), (true, 10), (true, 11), (true, 12), (true, 13), (true, 14), (true, 16), (false, 15), (false, 17), (true, 18), (true, 19), (true, 20), (true, 21)] follows (by as_aux_lemma => kernel_rfl) ?_
        simp only [inOrder, List.map_cons, List.map_nil, List.getD_cons_zero, List.getD_cons_succ]
        iterate 1
          refine wpF_pure fun K hK => ?_
          go_simp
          refine hK _ ?_
          clear hK K
        refine wpF_val (.int .i64 N) rfl (fun X hX => by have cc := (hbd.fr0 hX).cell; go_simp) ?_
        simp only [Act.put, List.setIfInBounds_toArray, List.set_cons_zero, List.set_cons_succ]
        refine wpF_one fun K hK => ?_
        go_simp
        refine (keyG _ hTd).mono ?_
        rintro e x ⟨rfl, rfl⟩
        refine hK _ _ (Fr.refl _ _) ?_
        clear hK K
        iterate 2
          refine wpF_pure fun K hK => ?_
          go_simp
          refine hK _ ?_
          clear hK K
        try simp only [d1, d1n]
        refine wpF_val (.int .i64 N) rfl (fun X hX => by have cc := (hbd.fr0 hX).cell; go_simp) ?_
        simp only [Act.put, List.setIfInBounds_toArray, List.set_cons_zero, List.set_cons_succ]
        iterate 2
          refine wpF_pure fun K hK => ?_
          go_simp
          refine hK _ ?_
          clear hK K
        try simp only [d2, d2n]
        iterate 1
          refine wpF_pure fun K hK => ?_
          go_simp
          refine hK _ ?_
          clear hK K
        refine wpF_one fun K hK => ?_
        go_simp
        clear hK K
        iterate 4
          refine wpF_pure fun K hK => ?_
          go_simp
          refine hK _ ?_
          clear hK K
        iterate 2
          refine wpF_pure fun K hK => ?_
          go_simp
          refine hK _ ?_
          clear hK K
        refine wpF_one fun K hK => ?_
        go_simp
        refine (keyG _ hTd).mono ?_
        rintro e x ⟨rfl, rfl⟩
        refine hK _ _ (Fr.refl _ _) ?_
        clear hK K
        refine wpF_one fun K hK => ?_
        go_simp
        refine (keyL _ hTd).mono ?_
        rintro e x ⟨rfl, rfl⟩
        refine hK _ _ (Fr.refl _ _) ?_
        clear hK K
        iterate 3
          refine wpF_pure fun K hK => ?_
          go_simp
          refine hK _ ?_
          clear hK K
        try simp only [d5]
        iterate 1
          refine wpF_pure fun K hK => ?_
          go_simp
          refine hK _ ?_
          clear hK K
        refine wpF_end ?_
        go_wp2
        refine ⟨⟨k + 1, L3, D :: Ds, _, _, _, _, _, _, _, _, _, _, _, _, _, _, _, _, _, _, _, _, _, _, _, _, _, _, _, _, _, _, _, _, _, _, _, _, _, _, _, _, _, _, _, _, _, _, _, _, _, _, _, _, _, _, _, _, _, _, _, _, _, _, _, rfl, by go_num, by omega, hTd, hMdd, hfd, hzd⟩, ?_⟩
        show ops.length - ((k : Int) + 1).toNat < ops.length - ((k : Nat) : Int).toNat
        omega
      · have d1n : ∀ i : Decidable (N < GR), @decide _ i = false := fun i => @decide_eq_false _ i (by omega)
        have d2n : ∀ i : Decidable (0 < N), @decide _ i = true := fun i => @decide_eq_true _ i (by omega)
        have d3n : ∀ i : Decidable (GR = 0), @decide _ i = false := fun i => @decide_eq_false _ i (by have := P2 hN0; omega)
        have d3m : (GR == 0) = false := by have := P2 hN0; simp; omega
        have d2 : ∀ i : Decidable ((0 : Int) < (N : Int)), @decide _ i = true := fun i => @decide_eq_true _ i (by omega)
        have d3 : ((GR : Int) == (0 : Int)) = false := by have := P2 hN0; simp; omega
        refine wp_region_F [(true, 0), (true, 2), (false, 1), (true, 3), (true, 4), (true, 5), (true, 6), (true, 7), (true, 8), (false, 9), (true, 10), (true, 11), (true, 12), (true, 13), (true, 14), (true, 16), (false, 15), (false, 17), (true, 18), (true, 19), (true, 20), (true, 21)] follows (by as_aux_lemma => kernel_rfl) ?_
        simp only [inOrder, List.map_cons, List.map_nil, List.getD_cons_zero, List.getD_cons_succ]
        iterate 1
          refine wpF_pure fun K hK => ?_
          go_simp
          refine hK _ ?_
          clear hK K
        refine wpF_val (.int .i64 N) rfl (fun X hX => by have cc := (hbd.fr0 hX).cell; go_simp) ?_
        simp only [Act.put, List.setIfInBounds_toArray, List.set_cons_zero, List.set_cons_succ]
        refine wpF_one fun K hK => ?_
        go_simp
        refine (keyG _ hTd).mono ?_
        rintro e x ⟨rfl, rfl⟩
        refine hK _ _ (Fr.refl _ _) ?_
        clear hK K
        iterate 2
          refine wpF_pure fun K hK => ?_
          go_simp
          refine hK _ ?_
          clear hK K
        try simp only [d1, d1n]
        refine wpF_val (.int .i64 N) rfl (fun X hX => by have cc := (hbd.fr0 hX).cell; go_simp) ?_
        simp only [Act.put, List.setIfInBounds_toArray, List.set_cons_zero, List.set_cons_succ]
        iterate 2
          refine wpF_pure fun K hK => ?_
          go_simp
          refine hK _ ?_
          clear hK K
        try simp only [d2, d2n]
        iterate 1
          refine wpF_pure fun K hK => ?_
          go_simp
          refine hK _ ?_
          clear hK K
        refine wpF_one fun K hK => ?_
        go_simp
        refine (keyG _ hTd).mono ?_
        rintro e x ⟨rfl, rfl⟩
        refine hK _ _ (Fr.refl _ _) ?_
        clear hK K
        iterate 1
          refine wpF_pure fun K hK => ?_
          go_simp
          refine hK _ ?_
          clear hK K
        try simp only [d3, d3n, d3m]
        iterate 3
          refine wpF_pure fun K hK => ?_
          go_simp
          refine hK _ ?_
          clear hK K
        iterate 2
          refine wpF_pure fun K hK => ?_
          go_simp
          refine hK _ ?_
          clear hK K
        refine wpF_one fun K hK => ?_
        go_simp
        refine (keyG _ hTd).mono ?_
        rintro e x ⟨rfl, rfl⟩
        refine hK _ _ (Fr.refl _ _) ?_
        clear hK K
        refine wpF_one fun K hK => ?_
        go_simp
        refine (keyL _ hTd).mono ?_
        rintro e x ⟨rfl, rfl⟩
        refine hK _ _ (Fr.refl _ _) ?_
        clear hK K
        iterate 3
          refine wpF_pure fun K hK => ?_
          go_simp
          refine hK _ ?_
          clear hK K
        try simp only [d5]
        iterate 1
          refine wpF_pure fun K hK => ?_
          go_simp
          refine hK _ ?_
          clear hK K
        refine wpF_end ?_
        go_wp2
        refine ⟨⟨k + 1, L3, D :: Ds, _, _, _, _, _, _, _, _, _, _, _, _, _, _, _, _, _, _, _, _, _, _, _, _, _, _, _, _, _, _, _, _, _, _, _, _, _, _, _, _, _, _, _, _, _, _, _, _, _, _, _, _, _, _, _, _, _, _, _, _, _, _, _, rfl, by go_num, by omega, hTd, hMdd, hfd, hzd⟩, ?_⟩
        show ops.length - ((k : Int) + 1).toNat < ops.length - ((k : Nat) : Int).toNat
        omega
  · have hke : k = ops.length := by omega
    subst hke
    go_wp2_with fail
    refine (alive_calls _).mono ?_
    rintro e w3 ⟨rfl, hf3⟩
    have hMk3 := hMk.fr0 hf3
    have hF3 := hF.trans0 hf3
    go_wp2
    exact leave_marks rfl hMk3 (fun W' _ => results_tmp rfl _ _ _) fun W' hF => ⟨rfl, hF3.trans hF (fun x hx hl => by have := hMk3.ge x hx; omega)⟩
theorem TableRoom_any (w : World) (n : Int) (_ : wfI n) (vs : Value) (os : List Opr) (hs : SlO w vs os) (_ : ∀ x ∈ os, wfO x) :
    Calls Try.prog 6 #[.int .i64 n, vs] w fun e w' => e = .returned (.bool true) ∧ Fr [] w w' := by
  cases h : okSize n && decide (os.length ≤ 100) with
  | false => exact TableRoom_no n vs os w hs h
  | true =>
    simp only [Bool.and_eq_true, decide_eq_true_eq] at h
    exact TableRoom_yes n vs os w hs h.1 h.2
end Go.Proofs.Ytknbjdbdpdbeiaa
