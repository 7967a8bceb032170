/-
  slices.Clone of a row of any length; check.Repair: counts, as ints hold them.
-/
import Derived.Test.YtmbbmombhkaeoaaChkN
import Derived.Test.YtmbbmombhkaeoaaWkJ
namespace Go.Proofs.Ytmbbmombhkaeoaa
open Go.RowKit Go.Maps
attribute [local go_sem] Oper.semAt_some
attribute [local go_sem high] equalSlot0 equalSlotR0

theorem bnd_lens {a b : List (List Slt)} (h : a.map List.length = b.map List.length) (hb : Bnd b) : Bnd a := by
  have e : ∀ (l : List (List Slt)) (i : Nat), (l.getD i []).length = (l.map List.length).getD i 0 := fun l i => by
    rw [List.getD_eq_getElem?_getD, List.getD_eq_getElem?_getD, List.getElem?_map]
    cases l[i]? <;> rfl
  refine ⟨?_, fun i => ?_⟩
  · have := congrArg List.length h
    simp only [List.length_map] at this
    rw [this]; exact hb.1
  · rw [e, h, ← e]; exact hb.2 i
set_option maxRecDepth 100000 in
theorem Clone_callsW (u : Value) (l : List Slt) (w : World) (hs : SlS w u l) (hl : l.length ≤ 5864062014634) :
    Calls Try.prog 29 #[u] w fun e w' => ∃ v, e = .returned v ∧ w'.ownsRow w.heap.size 45 3 v l.length (l.flatMap slotC) ∧ Fr [] w w' := by
  obtain ⟨i0, hi, hz0, hz1, hz2⟩ := info_parts infoSlot
  have hs0 := hs
  obtain ⟨a, cap, rfl, hmc, hcm, hc⟩ := hs
  cases a with
  | none =>
    have hn : l = [] := by
      rcases hc with h | ⟨b, off, h, _⟩
      · have := congrArg List.length h
        rw [flat3_length] at this
        exact List.eq_nil_of_length_eq_zero (by simp at this; omega)
      · cases h
    subst hn
    have hq : ∀ (w : World), (binOp .eql 41 (.slice none 0 cap) (.slice none 0 0)).run Try.prog w = .ok (.bool true) w := fun w => Lib.run_eql_slice_nil w _ 45 none 0 cap 0 0 Try.underlying41
    simp only [List.length_nil]
    go_enter Try.func29, Try.ntmps29
    go_wp2
    go_ret
    exact ⟨_, rfl, World.ownsRow_nil _ _ _ _, Fr.refl _ _⟩
  | some ad =>
    have hq : ∀ (w : World), (binOp .eql 41 (.slice (some ad) l.length cap) (.slice none 0 0)).run Try.prog w = .ok (.bool false) w := fun w => Lib.run_eql_slice_nil w _ 45 (some ad) l.length cap 0 0 Try.underlying41
    have hcell : ∀ (j : Nat) (y : Value), (l.flatMap slotC)[j]? = some y → (w.alloc (.cells #[] 45)).cell? (ad.add j) = some y := fun j y hy => by
      rcases hc with he | ⟨b, off, hab, hb, hc⟩
      · rw [he] at hy; cases hy
      · cases hab
        have hadd : (⟨b, off, none⟩ : Addr).add j = ⟨b, off + j, none⟩ := by unfold Addr.add; split <;> simp_all
        rw [hadd]
        exact (World.cell?_of_block (((Fr.refl [] w).alloc _).block b hb (by simp))).trans (hc j y hy)
    clear hs0 hc
    go_enter Try.func29, Try.ntmps29
    go_wp2_with (at_builtin; refine Hid.out ?_)
    refine hidIt ?_
    refine wpList_append_own_at (w.alloc (.cells #[] 45)) rfl _ _ 41 rfl w.heap.size 45 i0 _ 3 24 Try.underlying41 hi hz0 hz1 hz2 rfl (by decide) (.slice (some ⟨w.heap.size, 0, none⟩) 0 0) 0 [] rfl (World.ownsRow_made w #[] 0 (Nat.le_refl _) (by decide) rfl) ad l.length cap (l.flatMap slotC) rfl (flat3_length l) hcell (flat_one (fun _ => slot_one) l) (by unfold maxLen; omega) (by omega) (by simp) ?_
    intro v2 w2 hown2 hgrow2 _ hloc2
    rw [Nat.zero_add, List.nil_append] at hown2
    obtain ⟨a2, c2, rfl, _⟩ := Sl.of_owns hown2
    have hF2 : Fr [] w w2 := ((Fr.refl [] w).alloc _).grown hgrow2 (fun x hx => .inr (by cases hx; exact Nat.le_refl _))
    go_wp2
    go_ret
    exact ⟨_, rfl, hown2, hF2⟩
/-- what Repair answers -/
def RepPostW (n : List Int) (ls : List (List Slt)) (w : World) (e : Ending) (w' : World) : Prop :=
  ∃ v0 v1 vs ls2, e = .returned (.tuple #[v0, v1, .int .i64 (wz (cntTo (badAt n.length ls.flatten) ls.flatten.length + cntTo (turn2 n.length (len0 ls) (rcW n.length (ls.flatten.mapIdx fun _ => fix1 n.length)) (ls.flatten.mapIdx fun _ => fix1 n.length)) ls.flatten.length + cntTo (diffAt n (rcW n.length (ls.flatten.mapIdx fun _ => fix1 n.length))) n.length))]) ∧
    w'.ownsRow w.heap.size 3 1 v0 n.length ((rcW n.length (ls.flatten.mapIdx fun _ => fix1 n.length)).flatMap intC) ∧ OutV w' w.heap.size v1 vs ls2 ∧ ls2.map List.length = ls.map List.length ∧
    ls2.flatten = (ls.flatten.mapIdx fun _ => fix1 n.length).mapIdx (fix2 n.length (len0 ls) (rcW n.length (ls.flatten.mapIdx fun _ => fix1 n.length))) ∧ Fr [] w w'
set_option maxRecDepth 100000 in
set_option maxHeartbeats 6400000 in
theorem Repair_callsW (v u : Value) (n : List Int) (ls : List (List Slt)) (w : World) (hv : SlI w v n) (hu : SlR w u ls) (ht : Bnd ls) (hn : n.length ≤ 1048576) : Calls Try.prog 15 #[v, u] w (RepPostW n ls w) := by
  obtain ⟨an, capn, rfl, hlcn, hcmn, _⟩ := hv.open
  obtain ⟨a', cap', rfl, hlc', hcm'⟩ := hu.open
  unfold maxLen at hcm'
  have htl := ht.1
  have B2 := Blk.new w [.slice an n.length capn] 22
  have hf0 := (Fr.refl [] w).alloc (.cells #[.slice an n.length capn] 22)
  have hb0 : w.heap.size + 1 ≤ (w.alloc (.cells #[.slice an n.length capn] 22)).heap.size := by simp
  have hb0' : (w.alloc (.cells #[.slice an n.length capn] 22)).heap.size ≤ w.heap.size + 1 := by simp
  generalize hwA : w.alloc (.cells #[.slice an n.length capn] 22) = wA at *
  refine calls_marks Try.func15 rfl ?_
  simp only [Try.ntmps15, List.size_toArray, List.length_cons, List.length_nil, Nat.reduceAdd, Nat.reduceSub, Array.replicate_succ, Array.replicate_zero, List.push_toArray, List.append_toArray, List.nil_append, List.cons_append]
  go_wp2_with fail
  clear hwA
  go_loopw [7, 20] (fun out i wr => ∃ (k : Nat) (vs : List Value), k ≤ ls.length ∧ i = .int .i64 k ∧ OutV wr (w.heap.size + 1) out vs (ls.take k) ∧ Fr [] wA wr) (fun _ i _ => ls.length - (intOf i).toNat)
  case atStart => exact ⟨0, [], Nat.zero_le _, rfl, OutV.nil _ _, Fr.refl _ _⟩
  case round =>
    obtain ⟨k, vs, hk, rfl, hO, hF⟩ := hrel
    have hFw := hf0.trans0 hF
    by_cases hlt : k < ls.length
    · obtain ⟨b, off, a2, cap2, rfl, hb, c0, hs, hm2⟩ := SlR.at (hu.fr0 hFw) hlt
      have Hst : Hid (ls.take (k + 1) = ls.take k ++ [ls.getD k []]) := hidIt (by
        have hg : ls[k] = ls.getD k [] := by rw [List.getD_eq_getElem?_getD, List.getElem?_eq_getElem hlt]; rfl
        rw [List.take_succ_eq_append_getElem hlt, hg])
      have hml := ht.2 k
      have hkl : (ls.take k).length = k := by simp; omega
      generalize ls.take k = done at *
      generalize ls.getD k [] = l at *
      have hlk : l.length ≤ 5864062014634 := hml
      have hzF := hF.size
      go_wp2_with fail
      refine (Clone_callsW _ l _ hs hlk).mono ?_
      rintro e w2 ⟨x, rfl, hx, hf2⟩
      obtain ⟨ax, cx, rfl, _⟩ := Sl.of_owns hx
      have hO2 := hO.fr0 hf2
      have hz2 := hf2.size
      have hdl : done.length + 1 ≤ 5864062014634 := by omega
      have hF2 := hF.trans0 hf2
      have hub : ∀ x, u7.ownBlock = some x → w.heap.size + 1 ≤ x := fun x hx => (hO.row.lt x hx).1
      go_wp2_with (at_builtin; refine Hid.out ?_)
      refine hidIt ?_
      refine wpList_append1W 29 41 (.slice none 0 0) 1 24 Try.underlying29 infoRow rfl (by decide) rfl _ _ rfl (w.heap.size + 1) u7 _ vs rfl (hO2.row.alloc _) [.slice ax l.length cx] rfl (by intro u hu; simp at hu; subst hu; rfl) w2.heap.size rfl (Blk.new _ _ _) (by omega) (by unfold maxLen; omega) (by simp; omega) ?_
      intro v' w3 hown3 hgrow hloc
      go_wp2
      go_roundw
      case rel => exact ⟨k + 1, vs ++ [.slice ax l.length cx], by omega, by go_num, by rw [Hst.out]; exact hO.snoc (by omega) (hf2.alloc _) (hx.alloc _) hown3 hgrow hloc, (hF2.alloc _).grown hgrow (fun x hx => .inr (by have := hub x hx; omega))⟩
      case measure => simp [intOf]; omega
    · have hkl : k = ls.length := by omega
      subst hkl
      rw [List.take_length] at hO
      have hB2 := B2.fr0 hF
      have hzF := hF.size
      have hR := hO.rows
      obtain ⟨a, cap, rfl, _⟩ := Sl.of_owns hO.row
      have hlow : ∀ x, (Value.slice a ls.length cap).ownBlock = some x → w.heap.size + 1 ≤ x ∧ x < wr.heap.size := fun x hx => hO.row.lt x hx
      have Bc := Blk.new wr [.int .i64 0] 3
      have hfa := (Fr.refl [] wr).alloc (.cells #[.int .i64 0] 3)
      go_wp2_with fail
      refine (all_calls _ _ ⟨_, _, _, rfl⟩).mono ?_
      rintro e w1 ⟨bt, rfl, hbt, hf1, hb1⟩
      have hzB := hf1.size
      simp only [World.size_alloc] at hb1 hzB
      have hfb := hfa.trans0 hf1
      have hF1 := hF.trans0 hfb
      replace Bc := Bc.fr0 hf1
      replace B2 := hB2.fr0 hfb
      have hO1 := hO.fr0 hfb
      have hRt := hR.rowsW ht
      have hcA := hR.cumAll
      have hvl := hO.len
      have hltB := hO.ltB
      have hcn : wr.heap.size ∉ outB vs := fun h => by have := (hltB _ h).2.1; omega
      have hvc : (Value.slice a ls.length cap).ownBlock ≠ some wr.heap.size := fun h => by have := (hlow _ h).2; omega
      have heg : ∀ args w, (callFunc 32 args).run Try.prog w = .ok (.enter 32 args) w := enters_of Try.func32 (by kernel_rfl) rfl
      have hseq := all_seqW bt a cap vs w1 (by rw [hvl]; exact hbt) (by rw [hvl]; exact hO1.rows.2.1) hRt
      rw [hcA] at hseq
      clear hR hRt hbt hfa hfb hf1 hB2 hO hcA
      generalize hfs : ls.flatten = fs at *
      generalize wr = wB at *
      go_wp2_with fail
      refine wp_rangeFunc_seqL rfl heg hseq (Fr.refl _ _) (fun k f A => ∃ ls', f = wB.heap.size :: outB vs ∧ Blk A wB.heap.size [.int .i64 (wz (cntTo (badAt n.length fs) k))] 3 ∧ Blk A w.heap.size [.slice an n.length capn] 22 ∧ OutV A (w.heap.size + 1) (.slice a ls.length cap) vs ls' ∧ ls'.map List.length = ls.map List.length ∧ ls'.flatten = fixTo (fun _ => fix1 n.length) fs k ∧ Fr [] wA A) (fun _ _ _ => False) (wB.heap.size :: outB vs) ?st (fun _ _ _ _ _ h _ _ => h) (by simp) ?fp ⟨ls, rfl, (by rw [cntTo_zero, wz_zero]; exact Bc), B2, hO1, rfl, by rw [fixTo_zero]; exact hfs, hF1⟩ ?round ?done (fun _ _ _ _ _ _ h _ => h.elim)
      case fp =>
        intro x hx
        rcases List.mem_cons.1 hx with rfl | hx
        · refine ⟨by omega, fun h => ?_⟩
          rcases h with h | ⟨h0, p, hp, he⟩
          · omega
          · have := (hlow p.block (by rw [hp]; rfl)).2; omega
        · obtain ⟨q1, q2, q3⟩ := hltB x hx
          refine ⟨by omega, fun h => ?_⟩
          rcases h with h | ⟨h0, p, hp, he⟩
          · omega
          · exact q3 (by rw [hp, ← he]; rfl)
      case st =>
        rintro k f A B M' ⟨ls', rfl, hc, h2, hO', hl, hfl, hf⟩ hF' hM
        have nM : ∀ y ∈ M', w1.heap.size ≤ y ∧ y ∉ wB.heap.size :: outB vs := fun y hy => by rcases hM y hy with h | h; cases h; exact h
        exact ⟨ls', rfl, hc.fr hF' (fun h => (nM _ h).2 List.mem_cons_self), h2.fr hF' (fun h => by have := nM _ h; omega), hO'.fr hF' (fun x hx => ⟨fun h => (nM x hx).2 (List.mem_cons_of_mem _ h), fun h => by have := (nM x hx).1; have := hlow x h; omega⟩), hl, hfl, hf.trans hF' (fun x hx hl => by have := (nM x hx).1; have := hF.size; omega)⟩
      case round =>
        rintro lp k f A args h1 h2 h3 h4 hkk ⟨ls', hfe, hBc, hB2, hO', hl', hfl, hf⟩ ⟨i, kk, pb, hi2, hk2, hMk, hpb, rfl, hBp⟩ ⟨rr, hrr⟩
        refine ⟨rfl, ?_⟩
        clear hseq heg
        have hne : pb ≠ lp := fun e => by subst e; unfold Blk at hBp; rw [hBp] at hrr; cases hrr
        gi_wp2
        refine ⟨⟨ls', hfe, hBc, hB2, hO', hl', hfl, hf⟩, Fr.refl _ _, ?_⟩
        clear hBc hB2 hO' hf hfe hl' hfl ls'
        rintro A2 ⟨ls', rfl, hBc, hB2, hO', hl', hfl, hf⟩ hF2 hsz2
        have hBp2 := hBp.fr hF2 (by simpa using hne)
        obtain ⟨hss, hkl, hget⟩ := hO'.rows.slot hi2 hk2
        have Hflat := fun s' => flatten_set ls' i kk s' (by rw [← hO'.len]; exact hi2) hkl
        rw [← hO'.rows.cum (Nat.le_of_lt hi2), ← hMk, hfl] at Hflat
        rw [← hMk, hfl, fixTo_at] at hget
        obtain ⟨g, cp, hvi, hrb, hro, hgb, hgl, hown⟩ := hO'.at hi2 hkl
        rw [hrb, hro, Nat.zero_add] at hBp2
        have hgB : g ∈ outB vs := outB_mem hvi rfl
        have hgn := hltB g hgB
        have Hbad := hidIt (cntTo_succ (badAt n.length fs) k)
        have Hb : Hid (badAt n.length fs k = badS (fs.getD k zS) n.length) := hidIt rfl
        have Hfix := hidIt (fixTo_succ (fun _ => fix1 n.length) fs k hkk)
        have Hno := fun h => hidIt (fixTo_same (fun _ => fix1 n.length) fs k hkk h)
        have Hset := hO'.set3 hvi hkl zS
        have hcle := cntTo_le (badAt n.length fs) k
        have hlens := lens_set ls' i ((ls'.getD i []).set kk zS) (by simp)
        have Hl2 : Hid (ls'.map List.length = ls.map List.length) := hidIt hl'
        have Hfl := hidIt hfl
        clear hfl hl' hss hBp hMk hi2 hk2 hrb hro
        have hpd := hBp2.fr0 (Fr.refl _ _).drew
        have hFd : Fr [] A2 A2.drew := (Fr.refl _ _).drew
        have hcells : ∀ X, Fr [] A2 X → X.cell? ⟨g, kk * 3, none⟩ = some (.int .i64 (fs.getD k zS).1) ∧ X.cell? ⟨g, kk * 3 + 1, none⟩ = some (.int .i64 (fs.getD k zS).2.1) ∧ X.cell? ⟨g, kk * 3 + 2, none⟩ = some (.bool (fs.getD k zS).2.2) := fun X hX => by
          rw [hget]; exact (owns_at3 (owns_fr hown hX (by simp)) hkl).1
        have hfroz : ∀ X, Fr [] A2 X → ∀ o, X.frozen? ⟨g, o, none⟩ = false := fun X hX => (owns_at3 (owns_fr hown hX (by simp)) hkl).2
        generalize cntTo (badAt n.length fs) k = C at *
        have hwC := wz_succ C
        generalize fs.getD k zS = s at *
        obtain ⟨p, q, r⟩ := s
        simp only at hcells
        clear hget hown hgl
        gi_wp2_with fail
        refine wpIn_region_G (Fr [] A2.drew) [(true, 0), (true, 1), (true, 2), (true, 3), (true, 4), (true, 5), (true, 6), (true, 7), (false, 8)] (by as_aux_lemma => kernel_rfl) (by as_aux_lemma => kernel_rfl) (Fr.refl _ _) ?_
        simp only [inOrder, List.map_cons, List.map_nil, List.getD_cons_zero, List.getD_cons_succ]
        iterate 3
          refine wpG_pure fun K hK => ?_
          go_simp
          refine hK _ ?_
          clear hK K
        refine wpG_val (.pointer (some ⟨g, kk * 3, none⟩)) (by first | rfl | go_simp) (fun X hX => by have cc := (hpd.fr0 hX).cell; go_simp) ?_
        simp only [Act.put, List.setIfInBounds_toArray, List.set_cons_zero, List.set_cons_succ]
        iterate 1
          refine wpG_pure fun K hK => ?_
          go_simp
          refine hK _ ?_
          clear hK K
        refine wpG_val (.agg #[.int .i64 p, .int .i64 q, .bool r]) (by first | rfl | go_simp) (fun X hX => by obtain ⟨e0, e1, e2⟩ := hcells X (hFd.trans0 hX); go_simp) ?_
        simp only [Act.put, List.setIfInBounds_toArray, List.set_cons_zero, List.set_cons_succ]
        refine wpG_val (.slice an n.length capn) (by first | rfl | go_simp) (fun X hX => by have cc := ((hB2.fr0 hFd).fr0 hX).cell; go_simp) ?_
        simp only [Act.put, List.setIfInBounds_toArray, List.set_cons_zero, List.set_cons_succ]
        iterate 1
          refine wpG_pure fun K hK => ?_
          go_simp
          refine hK _ ?_
          clear hK K
        refine wpG_one fun K hK => ?_
        go_simp
        refine (beyond_calls p q r (n.length : Int) _).mono ?_
        rintro e w6 ⟨rfl, hf6⟩
        refine hK _ _ (hf6) ?_
        clear hK K
        refine wpG_end ?_
        have hf26 := hFd.trans0 hf6
        have hc6 := hBc.fr0 hf26
        have h26 := hB2.fr0 hf26
        have hp6 := hpd.fr0 hf6
        have hz6 := hf26.size
        cases hh : badS (p, q, r) (n.length : Int) with
        | false =>
          have e1 := Hno (by unfold fix1; rw [hh]; rfl)
          have hO6 := hO'.fr0 hf26
          have hfw := hf.trans0 hf26
          have hB6 := fun z hz => (hO6.ltB z hz).2.1
          have lc := hc6.lt
          clear Hfix Hflat Hset hcells hfroz Hno
          gi_wp2
          exact ⟨_, ⟨ls', rfl, by rw [Hbad.out, Hb.out, hh]; exact hc6, h26, hO6, Hl2.out, by rw [e1.out]; exact Hfl.out, hfw⟩, hf26.weak, fun z hz => ⟨by rcases List.mem_cons.1 hz with rfl | hz; exact lc; exact hB6 z hz, .inl hz⟩⟩
        | true =>
          obtain ⟨e0, e1, e2⟩ := hcells w6 hf26
          have hfz := hfroz w6 hf26
          have hgc : g ≠ wB.heap.size := by omega
          have cc := hc6.cell
          have fc := hc6.frozen
          have cp6 := hp6.cell
          clear Hno hcells hfroz
          gi_wp2
          have hO6 := (hO'.fr0 hf26).set3 hvi hkl zS
          have hs3 : Fr [g] w6 (((w6.setCell ⟨g, kk * 3, none⟩ (.int .i64 0)).setCell ⟨g, kk * 3 + 1, none⟩ (.int .i64 0)).setCell ⟨g, kk * 3 + 2, none⟩ (.bool false)) := Fr.set3' _ _ _ _ _ _ _ _
          have hc7 := hc6.fr hs3 (by simp; omega)
          have h27 := h26.fr hs3 (by simp; omega)
          have hf7 : Fr (wB.heap.size :: outB vs) A2 (((w6.setCell ⟨g, kk * 3, none⟩ (.int .i64 0)).setCell ⟨g, kk * 3 + 1, none⟩ (.int .i64 0)).setCell ⟨g, kk * 3 + 2, none⟩ (.bool false)) := hf26.weak.trans' (hs3.mono (fun x hx _ => by have := List.mem_singleton.1 hx; subst this; exact List.mem_cons_of_mem _ hgB))
          have hfw7 := (hf.trans0 hf26).trans hs3 (fun x hx hl => by have := List.mem_singleton.1 hx; omega)
          change OutV (((w6.setCell ⟨g, kk * 3, none⟩ (.int .i64 0)).setCell ⟨g, kk * 3 + 1, none⟩ (.int .i64 0)).setCell ⟨g, kk * 3 + 2, none⟩ (.bool false)) _ _ _ _ at hO6
          generalize (((w6.setCell ⟨g, kk * 3, none⟩ (.int .i64 0)).setCell ⟨g, kk * 3 + 1, none⟩ (.int .i64 0)).setCell ⟨g, kk * 3 + 2, none⟩ (.bool false)) = w7 at *
          have hs4 : Fr [wB.heap.size] w7 (w7.setCell ⟨wB.heap.size, 0, none⟩ (.int .i64 (wz (C + 1)))) := (Fr.refl _ _).setCell (.inl (by simp)) _
          have hO8 := hO6.fr hs4 (fun x hx => by have := List.mem_singleton.1 hx; subst this; exact ⟨hcn, hvc⟩)
          have hc8 := hc7.setCell 0 (.int .i64 (wz (C + 1)))
          have h28 := h27.fr hs4 (by simp; omega)
          have hf8 := hf7.trans' (hs4.mono (fun x hx _ => by have := List.mem_singleton.1 hx; subst this; exact List.mem_cons_self))
          have hfw8 := hfw7.trans hs4 (fun x hx hl => by have := List.mem_singleton.1 hx; omega)
          have lc := hc8.lt
          have hB8 := fun z hz => (hO8.ltB z hz).2.1
          have e1 : fix1 n.length (p, q, r) = zS := by unfold fix1; rw [hh]; rfl
          exact ⟨_, ⟨_, rfl, by rw [Hbad.out, Hb.out, hh]; exact hc8, h28, hO8, hlens.trans Hl2.out, by rw [Hfix.out, Hflat, e1], hfw8⟩, hf8, fun z hz => ⟨by rcases List.mem_cons.1 hz with rfl | hz; exact lc; exact hB8 z hz, .inl hz⟩⟩
      case done =>
        rintro D f W h1 h2 ⟨ls', rfl, hBc, hB2, hO', hl', hfl, hf⟩ hK
        rw [fixTo_all] at hfl
        clear hseq
        have htot := tot_lens hl'
        have hl0 := len0_lens hl'
        have hgl : (fs.mapIdx fun _ => fix1 n.length).length = fs.length := by simp
        have hFw : Fr [] w W := hf0.trans0 hf
        have kR := refs_callsW n.length (.slice a ls.length cap) ls' W hO'.slr (bnd_lens hl' ht) hn
        rw [hfl] at kR
        generalize hgs : (fs.mapIdx fun _ => fix1 n.length) = gs at *
        have hC1 := cntTo_le (badAt n.length fs) fs.length
        generalize hC1e : cntTo (badAt n.length fs) fs.length = C1 at *
        have c2 := hB2.cell
        go_wp2_with fail
        refine kR.mono ?_
        rintro e W2 ⟨v0, rfl, ho, hfr⟩
        clear kR c2
        have hz2 := hfr.size
        have hrl := rcW_length n.length gs
        generalize hc : rcW n.length gs = c at *
        have hsc : SlI W2 v0 c := SlF.of_owns (by rw [hrl]; exact ho)
        obtain ⟨al, cl, rfl, _⟩ := Sl.of_owns ho
        have Bl := Blk.new W2 [.slice al n.length cl] 22
        have hfa := (Fr.refl [] W2).alloc (.cells #[.slice al n.length cl] 22)
        go_wp2_with fail
        refine (all_calls _ _ ⟨_, _, _, rfl⟩).mono ?_
        rintro e W3 ⟨bt2, rfl, hbt, hf3, hb3⟩
        have hz3 := hf3.size
        simp only [World.size_alloc] at hb3 hz3
        have hf23 := hfa.trans0 hf3
        have hfW := hfr.trans0 hf23
        replace Bl := Bl.fr0 hf3
        replace hBc := hBc.fr0 hfW
        replace hB2 := hB2.fr0 hfW
        replace hO' := hO'.fr0 hfW
        replace hsc := SlF.fr0 hsc hf23
        replace ho := owns_fr ho hf23 (by simp)
        replace hf := hf.trans0 hfW
        have hKl := (Array.getElem?_eq_some_iff.1 hK).1
        have hK3 : W3.heap[D]? = some (.deferred (some [])) := (hfW.block D hKl (by simp)).trans hK
        have hob := own_base ho
        have hseq := all_seqW bt2 a cap vs W3 (by rw [hvl]; exact hbt) (by rw [hvl]; have e := hO'.rows.2.1; rw [← hO'.len, hvl] at e; exact e) (hO'.rows.rowsW (bnd_lens hl' ht))
        rw [hO'.rows.cumAll, hfl] at hseq
        clear hbt hfa hf3 hf23 hfW hfr hK
        go_wp2_with fail
        refine wp_rangeFunc_seqL rfl heg hseq (Fr.refl _ _) (fun k f A => ∃ ls3 M, Hid (M = C1 + cntTo (turn2 n.length (len0 ls) c gs) k) ∧ f = wB.heap.size :: outB vs ∧ Blk A wB.heap.size [.int .i64 (wz M)] 3 ∧ OutV A (w.heap.size + 1) (.slice a ls.length cap) vs ls3 ∧ ls3.map List.length = ls.map List.length ∧ ls3.flatten = fixTo (fix2 n.length (len0 ls) c) gs k ∧ Fr (wB.heap.size :: outB vs) W3 A) (fun _ _ _ => False) (wB.heap.size :: outB vs) ?st (fun _ _ _ _ _ h _ _ => h) (by simp) ?fp ⟨ls', C1, hidIt rfl, rfl, hBc, hO', hl', by rw [fixTo_zero]; exact hfl, Fr.refl _ _⟩ ?round ?done (fun _ _ _ _ _ _ h _ => h.elim)
        case fp =>
          intro x hx
          rcases List.mem_cons.1 hx with rfl | hx
          · refine ⟨by omega, fun h => ?_⟩
            rcases h with h | ⟨h0, p, hp, he⟩
            · omega
            · have := (hlow p.block (by rw [hp]; rfl)).2; omega
          · obtain ⟨q1, q2, q3⟩ := hltB x hx
            refine ⟨by omega, fun h => ?_⟩
            rcases h with h | ⟨h0, p, hp, he⟩
            · omega
            · exact q3 (by rw [hp, ← he]; rfl)
        case st =>
          rintro k f A B M' ⟨ls3, M, HM, rfl, hc, hO', hl, hfl, hf⟩ hF' hM
          have nM : ∀ y ∈ M', W3.heap.size ≤ y ∧ y ∉ wB.heap.size :: outB vs := fun y hy => by rcases hM y hy with h | h; cases h; exact h
          exact ⟨ls3, M, HM, rfl, hc.fr hF' (fun h => (nM _ h).2 List.mem_cons_self), hO'.fr hF' (fun x hx => ⟨fun h => (nM x hx).2 (List.mem_cons_of_mem _ h), fun h => by have := (nM x hx).1; have := hlow x h; omega⟩), hl, hfl, hf.trans hF' (fun x hx hl => by have := (nM x hx).1; omega)⟩
        case round =>
          rintro lp k f A args h1 h2 h3 h4 hkk ⟨ls3, M, HM, hfe, hBc, hO', hl', hfl, hf⟩ ⟨i, kk, pb, hi2, hk2, hMk, hpb, rfl, hBp⟩ ⟨rr, hrr⟩
          refine ⟨rfl, ?_⟩
          clear hseq heg
          have hne : pb ≠ lp := fun e => by subst e; unfold Blk at hBp; rw [hBp] at hrr; cases hrr
          gi_wp2
          refine ⟨⟨ls3, M, HM, hfe, hBc, hO', hl', hfl, hf⟩, Fr.refl _ _, ?_⟩
          clear hBc hO' hf hfe hl' hfl ls3 HM M
          rintro A2 ⟨ls3, M, HM, rfl, hBc, hO', hl', hfl, hf⟩ hF2 hsz2
          have hBp2 := hBp.fr hF2 (by simpa using hne)
          obtain ⟨hss, hkl, hget⟩ := hO'.rows.slot hi2 hk2
          have hrow := hO'.rows.row0 hi2 hk2
          rw [← hMk, len0_lens hl'] at hrow
          have Hflat := fun s' => flatten_set ls3 i kk s' (by rw [← hO'.len]; exact hi2) hkl
          rw [← hO'.rows.cum (Nat.le_of_lt hi2), ← hMk, hfl] at Hflat
          rw [← hMk, hfl, fixTo_at] at hget
          obtain ⟨g, cp, hvi, hrb, hro, hgb, hgl, hown⟩ := hO'.at hi2 hkl
          rw [hrb, hro, Nat.zero_add] at hBp2
          have hgB : g ∈ outB vs := outB_mem hvi rfl
          have hgn := hltB g hgB
          have Hcnt := hidIt (cntTo_succ (turn2 n.length (len0 ls) c gs) k)
          have Ht : Hid (turn2 n.length (len0 ls) c gs k = (own2 n.length (len0 ls) c k (gs.getD k zS) != (gs.getD k zS).2.2)) := hidIt rfl
          have Hown : Hid (own2 n.length (len0 ls) c k (gs.getD k zS) = (hasS (gs.getD k zS) (n.length : Int) && decide (i = 0) && (c.getD (gs.getD k zS).2.1.toNat 0 == 1))) := hidIt (by unfold own2; simp only [hrow])
          have Hhost := fun h => has_host (s := gs.getD k zS) (m := n.length) h
          have Hfix := hidIt (fixTo_succ (fix2 n.length (len0 ls) c) gs k hkk)
          have Hno := fun h => hidIt (fixTo_same (fix2 n.length (len0 ls) c) gs k hkk h)
          have Hfx : Hid (fix2 n.length (len0 ls) c k (gs.getD k zS) = ((gs.getD k zS).1, (gs.getD k zS).2.1, own2 n.length (len0 ls) c k (gs.getD k zS))) := hidIt rfl
          have Hset : ∀ (X : World) (b : Bool), Fr [] A2 X → OutV (X.setCell ⟨g, kk * 3 + 2, none⟩ (.bool b)) (w.heap.size + 1) (.slice a ls.length cap) vs (ls3.set i ((ls3.getD i []).set kk ((gs.getD k zS).1, (gs.getD k zS).2.1, b))) := fun X b hX => by
            rw [hget]; exact (hO'.fr0 hX).setOwn hvi hkl b
          have hcle := cntTo_le (turn2 n.length (len0 ls) c gs) k
          have hwM := wz_succ M
          have hlens := fun s' => lens_set ls3 i ((ls3.getD i []).set kk s') (by simp)
          have Hl2 : Hid (ls3.map List.length = ls.map List.length) := hidIt hl'
          have Hfl := hidIt hfl
          clear hfl hl' hss hBp hMk hi2 hk2 hrb hro hrow hcle
          have hpd := hBp2.fr0 (Fr.refl _ _).drew
          have hFd : Fr [] A2 A2.drew := (Fr.refl _ _).drew
          have hcells : ∀ X, Fr [] A2 X → X.cell? ⟨g, kk * 3, none⟩ = some (.int .i64 (gs.getD k zS).1) ∧ X.cell? ⟨g, kk * 3 + 1, none⟩ = some (.int .i64 (gs.getD k zS).2.1) ∧ X.cell? ⟨g, kk * 3 + 2, none⟩ = some (.bool (gs.getD k zS).2.2) := fun X hX => by
            rw [hget]; exact (owns_at3 (owns_fr hown hX (by simp)) hkl).1
          have hfroz : ∀ X, Fr [] A2 X → ∀ o, X.frozen? ⟨g, o, none⟩ = false := fun X hX => (owns_at3 (owns_fr hown hX (by simp)) hkl).2
          have hnN : ∀ X, Fr [] A2 X → Blk X w.heap.size [.slice an n.length capn] 22 := fun X hX => (hB2.fr hf (fun h => by
            rcases List.mem_cons.1 h with h | h
            · omega
            · have := hltB _ h; omega)).fr0 hX
          have hlN : ∀ X, Fr [] A2 X → Blk X W2.heap.size [.slice al n.length cl] 22 := fun X hX => (Bl.fr hf (fun h => by
            rcases List.mem_cons.1 h with h | h
            · omega
            · have := hltB _ h; omega)).fr0 hX
          have hcN : ∀ X, Fr [] A2 X → SlI X (.slice al n.length cl) c := fun X hX => SlF.fr0 (SlF.fr hsc hf (fun x hx h => by
            have := hob x hx
            rcases List.mem_cons.1 h with h | h
            · omega
            · have := hltB _ h; omega)) hX
          generalize gs.getD k zS = s at *
          obtain ⟨p, q, r⟩ := s
          simp only at hcells Hset Hhost Hfx
          clear hget hown hgl
          gi_wp2_with fail
          refine wpIn_region_G (Fr [] A2.drew) [(true, 0), (true, 1), (true, 2), (true, 3), (true, 4), (true, 5), (true, 6), (true, 7), (false, 8), (true, 9), (true, 10), (true, 11), (true, 12), (true, 13), (true, 14), (true, 15), (true, 16), (true, 17), (true, 18), (true, 19), (true, 20), (true, 21), (true, 22), (true, 23), (true, 24), (true, 25), (true, 26)] (by as_aux_lemma => kernel_rfl) (by as_aux_lemma => kernel_rfl) (Fr.refl _ _) ?_
          simp only [inOrder, List.map_cons, List.map_nil, List.getD_cons_zero, List.getD_cons_succ]
          iterate 3
            refine wpG_pure fun K hK => ?_
            go_simp
            refine hK _ ?_
            clear hK K
          refine wpG_val (.pointer (some ⟨g, kk * 3, none⟩)) (by first | rfl | go_simp) (fun X hX => by have cc := (hpd.fr0 hX).cell; go_simp) ?_
          simp only [Act.put, List.setIfInBounds_toArray, List.set_cons_zero, List.set_cons_succ]
          iterate 1
            refine wpG_pure fun K hK => ?_
            go_simp
            refine hK _ ?_
            clear hK K
          refine wpG_val (.agg #[.int .i64 p, .int .i64 q, .bool r]) (by first | rfl | go_simp) (fun X hX => by obtain ⟨e0, e1, e2⟩ := hcells X (hFd.trans0 hX); go_simp) ?_
          simp only [Act.put, List.setIfInBounds_toArray, List.set_cons_zero, List.set_cons_succ]
          refine wpG_val (.slice an n.length capn) (by first | rfl | go_simp) (fun X hX => by have cc := (hnN X (hFd.trans0 hX)).cell; go_simp) ?_
          simp only [Act.put, List.setIfInBounds_toArray, List.set_cons_zero, List.set_cons_succ]
          iterate 1
            refine wpG_pure fun K hK => ?_
            go_simp
            refine hK _ ?_
            clear hK K
          refine wpG_one fun K hK => ?_
          go_simp
          refine (has_calls p q r (n.length : Int) _).mono ?_
          rintro e w6 ⟨rfl, hf6⟩
          refine hK _ _ (hf6) ?_
          clear hK K
          have hf26 := hFd.trans0 hf6
          have hc6 := hBc.fr0 hf26
          have hp6 := hpd.fr0 hf6
          have hz6 := hf26.size
          obtain ⟨e0, e1, e2⟩ := hcells w6 hf26
          have hfz := hfroz w6 hf26
          have hgc : g ≠ wB.heap.size := by omega
          have fc := hc6.frozen
          have cc6 := hc6.cell
          have cp6 := hp6.cell
          cases hh : hasS (p, q, r) (n.length : Int) with
          | false =>
            have eo := Hown.out
            rw [hh] at eo
            simp only [Bool.false_and] at eo
            iterate 18
              refine wpG_pure fun K hK => ?_
              go_simp
              refine hK _ ?_
              clear hK K
            refine wpG_end ?_
            cases r with
            | false =>
              have hO6 := hO'.fr0 hf26
              have hfw := hf.trans0 hf26
              have hB6 := fun z hz => (hO6.ltB z hz).2.1
              have lc := hc6.lt
              have e9 := Hno (by rw [Hfx.out, eo])
              have eT := Ht.out
              rw [eo] at eT
              have HM1 : Hid (M = C1 + cntTo (turn2 n.length (len0 ls) c gs) (k + 1)) := hidIt (by rw [Hcnt.out, eT]; simp; exact HM.out)
              clear Hfix Hflat Hset Hno Hown Hfx Ht Hcnt eT HM Hhost hcells hfroz
              clear eo
              gi_wp2
              exact ⟨_, ⟨ls3, M, HM1, rfl, hc6, hO6, Hl2.out, by rw [e9.out]; exact Hfl.out, hfw⟩, hf26.weak, fun z hz => ⟨by rcases List.mem_cons.1 hz with rfl | hz; exact lc; exact hB6 z hz, .inl hz⟩⟩
            | true =>
              have eT := Ht.out
              rw [eo] at eT
              have HM1 : Hid (M + 1 = C1 + cntTo (turn2 n.length (len0 ls) c gs) (k + 1)) := hidIt (by rw [Hcnt.out, eT]; simp; rw [HM.out]; omega)
              have e9 : Hid ((ls3.set i ((ls3.getD i []).set kk (p, q, false))).flatten = fixTo (fix2 n.length (len0 ls) c) gs (k + 1)) := hidIt (by rw [Hfix.out, Hflat, Hfx.out, eo])
              have hO7 := Hset w6 false hf26
              have hl7 := hlens (p, q, false)
              have hs3 : Fr [g] w6 (w6.setCell ⟨g, kk * 3 + 2, none⟩ (.bool false)) := (Fr.refl _ _).setCell (.inl (by simp)) _
              have hc7 := hc6.fr hs3 (by simp; omega)
              have hf7 : Fr (wB.heap.size :: outB vs) A2 (w6.setCell ⟨g, kk * 3 + 2, none⟩ (.bool false)) := hf26.weak.trans' (hs3.mono (fun x hx _ => by have := List.mem_singleton.1 hx; subst this; exact List.mem_cons_of_mem _ hgB))
              have hfw7 := hf.trans hf7 (fun x hx _ => hx)
              have hs4 : Fr [wB.heap.size] (w6.setCell ⟨g, kk * 3 + 2, none⟩ (.bool false)) ((w6.setCell ⟨g, kk * 3 + 2, none⟩ (.bool false)).setCell ⟨wB.heap.size, 0, none⟩ (.int .i64 (wz (M + 1)))) := (Fr.refl _ _).setCell (.inl (by simp)) _
              have hO8 := hO7.fr hs4 (fun x hx => by have := List.mem_singleton.1 hx; subst this; exact ⟨hcn, hvc⟩)
              have hc8 := hc7.setCell 0 (.int .i64 (wz (M + 1)))
              have hf8 := hf7.trans' (hs4.mono (fun x hx _ => by have := List.mem_singleton.1 hx; subst this; exact List.mem_cons_self))
              have hfw8 := hf.trans hf8 (fun x hx _ => hx)
              have lc := hc8.lt
              have hB8 := fun z hz => (hO8.ltB z hz).2.1
              clear Hfix Hflat Hset Hno Hown Hfx Ht Hcnt eT HM Hhost hcells hfroz
              clear eo
              gi_wp2
              exact ⟨_, ⟨_, M + 1, HM1, rfl, hc8, hO8, hl7.trans Hl2.out, e9.out, hfw8⟩, hf8, fun z hz => ⟨by rcases List.mem_cons.1 hz with rfl | hz; exact lc; exact hB8 z hz, .inl hz⟩⟩
          | true =>
            obtain ⟨H, hqH, hHm⟩ := Hhost hh
            have eo := Hown.out
            rw [hh] at eo
            subst hqH
            by_cases h0 : i = 0
            · simp only [h0, decide_true, Bool.and_true, Bool.true_and, Int.toNat_natCast] at eo
              subst h0
              have hHc : H < c.length := by rw [hrl]; exact hHm
              obtain ⟨bg, bo, hae, _, _⟩ := SlI.at (hcN w6 hf26) hHc
              subst hae
              have hcH : ∀ X, Fr [] A2 X → X.cell? ⟨bg, bo + H, none⟩ = some (.int .i64 (c.getD H 0)) := fun X hX => by
                obtain ⟨b', o', he, _, h⟩ := SlI.at (hcN X hX) hHc
                cases he
                exact h
              clear hHc
              generalize c.getD H 0 = x at *
              iterate 5
                refine wpG_pure fun K hK => ?_
                go_simp
                refine hK _ ?_
                clear hK K
              refine wpG_val (.slice (some ⟨bg, bo, none⟩) n.length cl) (by first | rfl | go_simp) (fun X hX => by have cc := (hlN X (hFd.trans0 hX)).cell; go_simp) ?_
              simp only [Act.put, List.setIfInBounds_toArray, List.set_cons_zero, List.set_cons_succ]
              iterate 3
                refine wpG_pure fun K hK => ?_
                go_simp
                refine hK _ ?_
                clear hK K
              refine wpG_val (.pointer (some ⟨g, kk * 3, none⟩)) (by first | rfl | go_simp) (fun X hX => by have cc := (hpd.fr0 hX).cell; go_simp) ?_
              simp only [Act.put, List.setIfInBounds_toArray, List.set_cons_zero, List.set_cons_succ]
              iterate 2
                refine wpG_pure fun K hK => ?_
                go_simp
                refine hK _ ?_
                clear hK K
              refine wpG_val (.int .i64 H) (by first | rfl | go_simp) (fun X hX => by obtain ⟨e0, e1, e2⟩ := hcells X (hFd.trans0 hX); go_simp) ?_
              simp only [Act.put, List.setIfInBounds_toArray, List.set_cons_zero, List.set_cons_succ]
              iterate 1
                refine wpG_pure fun K hK => ?_
                go_simp
                refine hK _ ?_
                clear hK K
              refine wpG_val (.int .i64 x) (by first | rfl | go_simp) (fun X hX => by have cc := hcH X (hFd.trans0 hX); go_simp) ?_
              simp only [Act.put, List.setIfInBounds_toArray, List.set_cons_zero, List.set_cons_succ]
              iterate 3
                refine wpG_pure fun K hK => ?_
                go_simp
                refine hK _ ?_
                clear hK K
              refine wpG_end ?_
              have hbe : (x == 1) = decide (x = 1) := by rw [Bool.eq_iff_iff]; simp
              rw [hbe] at eo
              by_cases hx : x = 1
              · simp only [hx, decide_true] at eo
                subst hx
                cases r with
                | false =>
                  have eT := Ht.out
                  rw [eo] at eT
                  have HM1 : Hid (M + 1 = C1 + cntTo (turn2 n.length (len0 ls) c gs) (k + 1)) := hidIt (by rw [Hcnt.out, eT]; simp; rw [HM.out]; omega)
                  have e9 : Hid ((ls3.set 0 ((ls3.getD 0 []).set kk (p, (H : Int), true))).flatten = fixTo (fix2 n.length (len0 ls) c) gs (k + 1)) := hidIt (by rw [Hfix.out, Hflat, Hfx.out, eo])
                  have hO7 := Hset w6 true hf26
                  have hl7 := hlens (p, (H : Int), true)
                  have hs3 : Fr [g] w6 (w6.setCell ⟨g, kk * 3 + 2, none⟩ (.bool true)) := (Fr.refl _ _).setCell (.inl (by simp)) _
                  have hc7 := hc6.fr hs3 (by simp; omega)
                  have hf7 : Fr (wB.heap.size :: outB vs) A2 (w6.setCell ⟨g, kk * 3 + 2, none⟩ (.bool true)) := hf26.weak.trans' (hs3.mono (fun x hx _ => by have := List.mem_singleton.1 hx; subst this; exact List.mem_cons_of_mem _ hgB))
                  have hfw7 := hf.trans hf7 (fun x hx _ => hx)
                  have hs4 : Fr [wB.heap.size] (w6.setCell ⟨g, kk * 3 + 2, none⟩ (.bool true)) ((w6.setCell ⟨g, kk * 3 + 2, none⟩ (.bool true)).setCell ⟨wB.heap.size, 0, none⟩ (.int .i64 (wz (M + 1)))) := (Fr.refl _ _).setCell (.inl (by simp)) _
                  have hO8 := hO7.fr hs4 (fun x hx => by have := List.mem_singleton.1 hx; subst this; exact ⟨hcn, hvc⟩)
                  have hc8 := hc7.setCell 0 (.int .i64 (wz (M + 1)))
                  have hf8 := hf7.trans' (hs4.mono (fun x hx _ => by have := List.mem_singleton.1 hx; subst this; exact List.mem_cons_self))
                  have hfw8 := hf.trans hf8 (fun x hx _ => hx)
                  have lc := hc8.lt
                  have hB8 := fun z hz => (hO8.ltB z hz).2.1
                  clear Hfix Hflat Hset Hno Hown Hfx Ht Hcnt eT HM Hhost hcells hfroz
                  clear eo
                  gi_wp2
                  exact ⟨_, ⟨_, M + 1, HM1, rfl, hc8, hO8, hl7.trans Hl2.out, e9.out, hfw8⟩, hf8, fun z hz => ⟨by rcases List.mem_cons.1 hz with rfl | hz; exact lc; exact hB8 z hz, .inl hz⟩⟩
                | true =>
                  have hO6 := hO'.fr0 hf26
                  have hfw := hf.trans0 hf26
                  have hB6 := fun z hz => (hO6.ltB z hz).2.1
                  have lc := hc6.lt
                  have e9 := Hno (by rw [Hfx.out, eo])
                  have eT := Ht.out
                  rw [eo] at eT
                  have HM1 : Hid (M = C1 + cntTo (turn2 n.length (len0 ls) c gs) (k + 1)) := hidIt (by rw [Hcnt.out, eT]; simp; exact HM.out)
                  clear Hfix Hflat Hset Hno Hown Hfx Ht Hcnt eT HM Hhost hcells hfroz
                  clear eo
                  gi_wp2
                  exact ⟨_, ⟨ls3, M, HM1, rfl, hc6, hO6, Hl2.out, by rw [e9.out]; exact Hfl.out, hfw⟩, hf26.weak, fun z hz => ⟨by rcases List.mem_cons.1 hz with rfl | hz; exact lc; exact hB6 z hz, .inl hz⟩⟩
              · simp only [hx, decide_false] at eo
                have hx1 : (x == 1) = false := by rw [hbe]; simp [hx]
                cases r with
                | false =>
                  have hO6 := hO'.fr0 hf26
                  have hfw := hf.trans0 hf26
                  have hB6 := fun z hz => (hO6.ltB z hz).2.1
                  have lc := hc6.lt
                  have e9 := Hno (by rw [Hfx.out, eo])
                  have eT := Ht.out
                  rw [eo] at eT
                  have HM1 : Hid (M = C1 + cntTo (turn2 n.length (len0 ls) c gs) (k + 1)) := hidIt (by rw [Hcnt.out, eT]; simp; exact HM.out)
                  clear Hfix Hflat Hset Hno Hown Hfx Ht Hcnt eT HM Hhost hcells hfroz
                  clear eo
                  gi_wp2
                  exact ⟨_, ⟨ls3, M, HM1, rfl, hc6, hO6, Hl2.out, by rw [e9.out]; exact Hfl.out, hfw⟩, hf26.weak, fun z hz => ⟨by rcases List.mem_cons.1 hz with rfl | hz; exact lc; exact hB6 z hz, .inl hz⟩⟩
                | true =>
                  have eT := Ht.out
                  rw [eo] at eT
                  have HM1 : Hid (M + 1 = C1 + cntTo (turn2 n.length (len0 ls) c gs) (k + 1)) := hidIt (by rw [Hcnt.out, eT]; simp; rw [HM.out]; omega)
                  have e9 : Hid ((ls3.set 0 ((ls3.getD 0 []).set kk (p, (H : Int), false))).flatten = fixTo (fix2 n.length (len0 ls) c) gs (k + 1)) := hidIt (by rw [Hfix.out, Hflat, Hfx.out, eo])
                  have hO7 := Hset w6 false hf26
                  have hl7 := hlens (p, (H : Int), false)
                  have hs3 : Fr [g] w6 (w6.setCell ⟨g, kk * 3 + 2, none⟩ (.bool false)) := (Fr.refl _ _).setCell (.inl (by simp)) _
                  have hc7 := hc6.fr hs3 (by simp; omega)
                  have hf7 : Fr (wB.heap.size :: outB vs) A2 (w6.setCell ⟨g, kk * 3 + 2, none⟩ (.bool false)) := hf26.weak.trans' (hs3.mono (fun x hx _ => by have := List.mem_singleton.1 hx; subst this; exact List.mem_cons_of_mem _ hgB))
                  have hfw7 := hf.trans hf7 (fun x hx _ => hx)
                  have hs4 : Fr [wB.heap.size] (w6.setCell ⟨g, kk * 3 + 2, none⟩ (.bool false)) ((w6.setCell ⟨g, kk * 3 + 2, none⟩ (.bool false)).setCell ⟨wB.heap.size, 0, none⟩ (.int .i64 (wz (M + 1)))) := (Fr.refl _ _).setCell (.inl (by simp)) _
                  have hO8 := hO7.fr hs4 (fun x hx => by have := List.mem_singleton.1 hx; subst this; exact ⟨hcn, hvc⟩)
                  have hc8 := hc7.setCell 0 (.int .i64 (wz (M + 1)))
                  have hf8 := hf7.trans' (hs4.mono (fun x hx _ => by have := List.mem_singleton.1 hx; subst this; exact List.mem_cons_self))
                  have hfw8 := hf.trans hf8 (fun x hx _ => hx)
                  have lc := hc8.lt
                  have hB8 := fun z hz => (hO8.ltB z hz).2.1
                  clear Hfix Hflat Hset Hno Hown Hfx Ht Hcnt eT HM Hhost hcells hfroz
                  clear eo
                  gi_wp2
                  exact ⟨_, ⟨_, M + 1, HM1, rfl, hc8, hO8, hl7.trans Hl2.out, e9.out, hfw8⟩, hf8, fun z hz => ⟨by rcases List.mem_cons.1 hz with rfl | hz; exact lc; exact hB8 z hz, .inl hz⟩⟩
            · have h1 : ((i : Int) == 0) = false := by simp; omega
              simp only [h0, decide_false, Bool.and_false, Bool.false_and] at eo
              iterate 18
                refine wpG_pure fun K hK => ?_
                go_simp
                refine hK _ ?_
                clear hK K
              refine wpG_end ?_
              cases r with
              | false =>
                have hO6 := hO'.fr0 hf26
                have hfw := hf.trans0 hf26
                have hB6 := fun z hz => (hO6.ltB z hz).2.1
                have lc := hc6.lt
                have e9 := Hno (by rw [Hfx.out, eo])
                have eT := Ht.out
                rw [eo] at eT
                have HM1 : Hid (M = C1 + cntTo (turn2 n.length (len0 ls) c gs) (k + 1)) := hidIt (by rw [Hcnt.out, eT]; simp; exact HM.out)
                clear Hfix Hflat Hset Hno Hown Hfx Ht Hcnt eT HM Hhost hcells hfroz
                clear eo
                gi_wp2
                exact ⟨_, ⟨ls3, M, HM1, rfl, hc6, hO6, Hl2.out, by rw [e9.out]; exact Hfl.out, hfw⟩, hf26.weak, fun z hz => ⟨by rcases List.mem_cons.1 hz with rfl | hz; exact lc; exact hB6 z hz, .inl hz⟩⟩
              | true =>
                have eT := Ht.out
                rw [eo] at eT
                have HM1 : Hid (M + 1 = C1 + cntTo (turn2 n.length (len0 ls) c gs) (k + 1)) := hidIt (by rw [Hcnt.out, eT]; simp; rw [HM.out]; omega)
                have e9 : Hid ((ls3.set i ((ls3.getD i []).set kk (p, (H : Int), false))).flatten = fixTo (fix2 n.length (len0 ls) c) gs (k + 1)) := hidIt (by rw [Hfix.out, Hflat, Hfx.out, eo])
                have hO7 := Hset w6 false hf26
                have hl7 := hlens (p, (H : Int), false)
                have hs3 : Fr [g] w6 (w6.setCell ⟨g, kk * 3 + 2, none⟩ (.bool false)) := (Fr.refl _ _).setCell (.inl (by simp)) _
                have hc7 := hc6.fr hs3 (by simp; omega)
                have hf7 : Fr (wB.heap.size :: outB vs) A2 (w6.setCell ⟨g, kk * 3 + 2, none⟩ (.bool false)) := hf26.weak.trans' (hs3.mono (fun x hx _ => by have := List.mem_singleton.1 hx; subst this; exact List.mem_cons_of_mem _ hgB))
                have hfw7 := hf.trans hf7 (fun x hx _ => hx)
                have hs4 : Fr [wB.heap.size] (w6.setCell ⟨g, kk * 3 + 2, none⟩ (.bool false)) ((w6.setCell ⟨g, kk * 3 + 2, none⟩ (.bool false)).setCell ⟨wB.heap.size, 0, none⟩ (.int .i64 (wz (M + 1)))) := (Fr.refl _ _).setCell (.inl (by simp)) _
                have hO8 := hO7.fr hs4 (fun x hx => by have := List.mem_singleton.1 hx; subst this; exact ⟨hcn, hvc⟩)
                have hc8 := hc7.setCell 0 (.int .i64 (wz (M + 1)))
                have hf8 := hf7.trans' (hs4.mono (fun x hx _ => by have := List.mem_singleton.1 hx; subst this; exact List.mem_cons_self))
                have hfw8 := hf.trans hf8 (fun x hx _ => hx)
                have lc := hc8.lt
                have hB8 := fun z hz => (hO8.ltB z hz).2.1
                clear Hfix Hflat Hset Hno Hown Hfx Ht Hcnt eT HM Hhost hcells hfroz
                clear eo
                gi_wp2
                exact ⟨_, ⟨_, M + 1, HM1, rfl, hc8, hO8, hl7.trans Hl2.out, e9.out, hfw8⟩, hf8, fun z hz => ⟨by rcases List.mem_cons.1 hz with rfl | hz; exact lc; exact hB8 z hz, .inl hz⟩⟩
        case done =>
          rintro D2 f W4 h3 h4 ⟨ls3, M, HM, rfl, hBc4, hO4, hl4, hfl4, hf4⟩ hK2
          clear hseq heg
          rw [fixTo_all] at hfl4
          rw [hgl] at HM
          have hz4 := hf4.size
          have hC2 := cntTo_le (turn2 n.length (len0 ls) c gs) fs.length
          have hwM := wz_succ M
          have hni : ∀ x, wB.heap.size < x → x ∉ wB.heap.size :: outB vs := fun x hx h => by
            rcases List.mem_cons.1 h with h | h
            · omega
            · have := hltB _ h; omega
          have hn4 : Blk W4 w.heap.size [.slice an n.length capn] 22 := hB2.fr hf4 (fun h => by
            rcases List.mem_cons.1 h with h | h
            · omega
            · have := hltB _ h; omega)
          have hl5 := Bl.fr hf4 (hni _ (by omega))
          have hK4 : W4.heap[D]? = some (.deferred (some [])) := (hf4.block D (by omega) (hni _ (by omega))).trans hK3
          have ho4 := owns_fr ho hf4 (fun x hx h => hni x (by have := hob x hx; omega) h)
          have hf4w : Fr [] w W4 := (hf0.trans0 hf).trans hf4 (fun x hx hl => by
            rcases List.mem_cons.1 hx with h | h
            · omega
            · have := hltB _ h; omega)
          have hmk : Marks (w.heap.size + 1) [D2, D] W4 := (Marks.nil _ _).cons hK4 (by omega) (by simp) |>.cons hK2 (by omega) (by simp; omega)
          have hDc : ∀ x ∈ [D2, D], wB.heap.size < x ∧ x ∉ outB vs ∧ (Value.slice a ls.length cap).ownBlock ≠ some x ∧ (Value.slice al n.length cl).ownBlock ≠ some x := fun x hx => by
            have hx' : x = D2 ∨ x = D := by simpa using hx
            have q1 : wB.heap.size < x := by omega
            exact ⟨q1, fun h => hni x q1 (List.mem_cons_of_mem _ h), fun h => by have := hlow x h; omega, fun h => by have := hob x h; have := (ho.lt x h).2; omega⟩
          have hsc4 : SlI W4 (.slice al n.length cl) c := SlF.of_owns (by rw [hrl]; exact ho4)
          clear hf4 hBc hB2 hO' hl' hfl hf Bl ho hK3 hK2 hK4 hsc
          have c2 := hn4.cell
          go_wp2_with fail
          go_loopw [105] (fun i wr => ∃ j M2 : Nat, j ≤ n.length ∧ i = .int .i64 j ∧ Hid (M2 = M + cntTo (diffAt n c) j) ∧ Blk wr wB.heap.size [.int .i64 (wz M2)] 3 ∧ Fr [wB.heap.size] W4 wr) (fun i _ => n.length - (intOf i).toNat)
          case atStart => exact ⟨0, M, Nat.zero_le _, rfl, hidIt rfl, hBc4, Fr.refl _ _⟩
          case round =>
            obtain ⟨j, M2, hj, rfl, HM2, hBc5, hf5⟩ := hrel
            have hz5 := hf5.size
            have hcn5 : wB.heap.size ∉ [] := by simp
            have hf5w := hf4w.trans hf5 (fun x hx hl => by have := List.mem_singleton.1 hx; omega)
            by_cases hlt : j < n.length
            · have hn5 := hn4.fr hf5 (by simp; omega)
              have hl6 := hl5.fr hf5 (by simp; omega)
              have hjc : j < c.length := by rw [hrl]; exact hlt
              obtain ⟨bn, on, rfl, hbn, en⟩ := SlI.at (SlF.fr0 hv hf5w : SlI _ _ _) hlt
              have hsc5 : SlI wr (.slice al n.length cl) c := SlF.fr hsc4 hf5 (fun x hx h => by have := hob x hx; have := List.mem_singleton.1 h; omega)
              obtain ⟨bc, oc, rfl, hbc, ec⟩ := SlI.at hsc5 hjc
              have Hst := hidIt (cntTo_succ (diffAt n c) j)
              have Hd : Hid (diffAt n c j = (n.getD j 0 != c.getD j 0)) := hidIt rfl
              have hcd := cntTo_le (diffAt n c) j
              have hwM2 := wz_succ M2
              have lc := hBc5.lt
              have c5 := hBc5.cell
              have f5 := hBc5.frozen
              have hFd : Fr [] wr wr.drew := (Fr.refl _ _).drew
              generalize n.getD j 0 = x at *
              generalize c.getD j 0 = y at *
              have hen : ∀ X, Fr [] wr X → X.cell? ⟨bn, on + j, none⟩ = some (.int .i64 x) := fun X hX => (World.cell?_of_block (hX.block bn hbn (by simp))).trans en
              have hec : ∀ X, Fr [] wr X → X.cell? ⟨bc, oc + j, none⟩ = some (.int .i64 y) := fun X hX => (World.cell?_of_block (hX.block bc hbc (by simp))).trans ec
              clear hcd hjc hsc5 en ec
              have hjn : (j : Int) < n.length := by omega
              have hj0 : (0 : Int) ≤ j := by omega
              have hxb : (x != y) = !decide (x = y) := by simp only [bne]; congr 1
              rw [hxb] at Hd
              go_wp2_with fail
              refine wp_region_G (Fr [] wr.drew) [(true, 0), (true, 1), (true, 2), (true, 3), (true, 4), (true, 5), (true, 6), (true, 7), (true, 8)] (by as_aux_lemma => kernel_rfl) (by as_aux_lemma => kernel_rfl) (Fr.refl _ _) ?_
              simp only [inOrder, List.map_cons, List.map_nil, List.getD_cons_zero, List.getD_cons_succ]
              refine wpG_val (.slice (some ⟨bn, on, none⟩) n.length capn) (by first | rfl | go_simp) (fun X hX => by have cc := ((hn5.fr0 hFd).fr0 hX).cell; go_simp) ?_
              simp only [Act.put, List.setIfInBounds_toArray, List.set_cons_zero, List.set_cons_succ]
              iterate 2
                refine wpG_pure fun K hK => ?_
                go_simp
                refine hK _ ?_
                clear hK K
              refine wpG_val (.int .i64 x) (by first | rfl | go_simp) (fun X hX => by have cc := hen X (hFd.trans0 hX); go_simp) ?_
              simp only [Act.put, List.setIfInBounds_toArray, List.set_cons_zero, List.set_cons_succ]
              refine wpG_val (.slice (some ⟨bc, oc, none⟩) n.length cl) (by first | rfl | go_simp) (fun X hX => by have cc := ((hl6.fr0 hFd).fr0 hX).cell; go_simp) ?_
              simp only [Act.put, List.setIfInBounds_toArray, List.set_cons_zero, List.set_cons_succ]
              iterate 2
                refine wpG_pure fun K hK => ?_
                go_simp
                refine hK _ ?_
                clear hK K
              refine wpG_val (.int .i64 y) (by first | rfl | go_simp) (fun X hX => by have cc := hec X (hFd.trans0 hX); go_simp) ?_
              simp only [Act.put, List.setIfInBounds_toArray, List.set_cons_zero, List.set_cons_succ]
              iterate 1
                refine wpG_pure fun K hK => ?_
                go_simp
                refine hK _ ?_
                clear hK K
              refine wpG_end ?_
              clear hen hec hn5 hl6
              have hFd' : Fr [wB.heap.size] W4 wr.drew := hf5.trans0 hFd
              have hBc6 := hBc5.fr0 hFd
              generalize decide (x = y) = B at *
              cases B with
              | true =>
                have hM6 : Hid (M2 = M + cntTo (diffAt n c) (j + 1)) := hidIt (by rw [Hst.out, Hd.out]; simp; exact HM2.out)
                clear Hst Hd HM2
                go_wp2
                go_roundw
                case rel => exact ⟨j + 1, M2, by omega, by go_num, hM6, hBc6, hFd'⟩
                case measure => simp [intOf]; omega
              | false =>
                have hM6 : Hid (M2 + 1 = M + cntTo (diffAt n c) (j + 1)) := hidIt (by rw [Hst.out, Hd.out]; simp; rw [HM2.out]; omega)
                clear Hst Hd HM2
                go_wp2
                go_roundw
                case rel => exact ⟨j + 1, M2 + 1, by omega, by go_num, hM6, hBc6.setCell 0 _, hFd'.setCell (.inl (by simp)) _⟩
                case measure => simp [intOf]; omega
            · have hje : j = n.length := by omega
              subst hje
              have hn5 := hn4.fr hf5 (by simp; omega)
              have hl6 := hl5.fr hf5 (by simp; omega)
              have hO5 := hO4.fr hf5 (fun x hx => by have := List.mem_singleton.1 hx; subst this; exact ⟨hcn, hvc⟩)
              have ho5 := owns_fr ho4 hf5 (fun x hx h => by have := hob x hx; have := List.mem_singleton.1 h; omega)
              have hmk5 := hmk.fr hf5 (fun x hx h => by have := (hDc x hx).1; have := List.mem_singleton.1 h; omega)
              have hFd : Fr [] wr wr.drew := (Fr.refl _ _).drew
              clear hltB hni hsc4 ho4 hO4 hmk hf5
              go_wp2_with fail
              refine wp_region_G (Fr [] wr.drew) [(true, 0), (true, 1), (true, 2), (true, 3), (true, 4), (true, 5)] (by as_aux_lemma => kernel_rfl) (by as_aux_lemma => kernel_rfl) (Fr.refl _ _) ?_
              simp only [inOrder, List.map_cons, List.map_nil, List.getD_cons_zero, List.getD_cons_succ]
              refine wpG_val (.slice al n.length cl) (by first | rfl | go_simp) (fun X hX => by have cc := ((hl6.fr0 hFd).fr0 hX).cell; go_simp) ?_
              simp only [Act.put, List.setIfInBounds_toArray, List.set_cons_zero, List.set_cons_succ]
              iterate 1
                refine wpG_pure fun K hK => ?_
                go_simp
                refine hK _ ?_
                clear hK K
              refine wpG_val (.int .i64 (wz M2)) (by first | rfl | go_simp) (fun X hX => by have cc := ((hBc5.fr0 hFd).fr0 hX).cell; go_simp) ?_
              simp only [Act.put, List.setIfInBounds_toArray, List.set_cons_zero, List.set_cons_succ]
              iterate 3
                refine wpG_pure fun K hK => ?_
                go_simp
                refine hK _ ?_
                clear hK K
              refine wpG_end ?_
              go_wp2
              refine leave_marks (s := w.heap.size + 1) (Ds := [D2, D]) (v := .tuple #[.slice al n.length cl, .slice a ls.length cap, .int .i64 (wz M2)]) rfl (hmk5.fr0 hFd) (fun W' hF' => ?_) fun W' hF' => ⟨.slice al n.length cl, .slice a ls.length cap, vs, ls3, ?_, ?_, ?_, hl4, ?_, ?_⟩
              · simp [results, Try.results15, go_sem]
              · rw [hfs, hgs, hc, hC1e, HM2.out, HM.out]
              · rw [hfs, hgs, hc]
                exact owns_fr (owns_base (owns_fr ho5 hFd (by simp)) (by omega)) hF' (fun x hx h => (hDc x h).2.2.2 hx)
              · exact ((hO5.fr0 hFd).fr hF' (fun x hx => ⟨(hDc x hx).2.1, (hDc x hx).2.2.1⟩)).base (by omega)
              · rw [hfs, hgs, hc]; exact hfl4
              · exact (hf5w.trans0 hFd).trans hF' (fun x hx hl => by have := (hDc x hx).1; omega)
end Go.Proofs.Ytmbbmombhkaeoaa
