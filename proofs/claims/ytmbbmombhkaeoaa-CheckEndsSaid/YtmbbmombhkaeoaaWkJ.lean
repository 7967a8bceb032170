/-
  check.refs: counts, as ints hold them.
-/
import Derived.Test.YtmbbmombhkaeoaaChkJ
import Derived.Test.YtmbbmombhkaeoaaWkI
namespace Go.Proofs.Ytmbbmombhkaeoaa
open Go.RowKit Go.Maps
attribute [local go_sem] Oper.semAt_some
attribute [local go_sem high] equalSlot0 equalSlotR0

theorem RowsV.rowsW {w : World} {v : Value} {vs : List Value} {ls : List (List Slt)} (h : RowsV w v vs ls) (ht : Bnd ls) : ∀ u ∈ vs, RowW u := by
  intro u hu
  obtain ⟨i, hi, rfl⟩ := List.getElem_of_mem hu
  have hs := h.2.2 i _ (List.getElem?_eq_getElem hi)
  obtain ⟨a, cap, he, hlc, hcm, hat⟩ := hs.open
  refine ⟨a, _, cap, he, ht.2 i, fun h0 => ?_⟩
  obtain ⟨b, off, hab, _⟩ := hat 3 (fun _ => rfl) (by omega) 0 _ (getD_some zS h0)
  exact ⟨b, off, hab⟩
/-- the counts, as ints hold them -/
def rcW (m : Nat) (l : List Slt) : List Int := (List.range m).map fun (h : Nat) => wz (rc1 (m : Int) (h : Int) l)
theorem rcW_length (m : Nat) (l : List Slt) : (rcW m l).length = m := by simp [rcW]
theorem rcW_getD {m h : Nat} (l : List Slt) (hh : h < m) : (rcW m l).getD h 0 = wz (rc1 (m : Int) (h : Int) l) := by
  rw [List.getD_eq_getElem?_getD, List.getElem?_eq_getElem (by rw [rcW_length]; exact hh)]
  simp [rcW]
theorem rcW_no {m : Nat} {l : List Slt} {j : Nat} (hj : j < l.length) (hh : hasS (l.getD j zS) (m : Int) = false) : rcW m (l.take (j + 1)) = rcW m (l.take j) := by
  unfold rcW
  apply List.map_congr_left
  intro h _
  rw [rc1_step hj, hh]
  simp
theorem rcW_yes {m : Nat} {l : List Slt} {j H : Nat} (hj : j < l.length) (hh : hasS (l.getD j zS) (m : Int) = true) (hH : (l.getD j zS).2.1 = (H : Int)) (_ : H < m) : rcW m (l.take (j + 1)) = (rcW m (l.take j)).set H (wz (rc1 (m : Int) (H : Int) (l.take j) + 1)) := by
  apply List.ext_getElem
  · simp [rcW_length]
  · intro i h1 h2
    rw [rcW_length] at h1
    rw [List.getElem_set]
    simp only [rcW, List.getElem_map, List.getElem_range]
    rw [rc1_step hj, hh, hH]
    by_cases e : H = i
    · subst e; simp
    · rw [if_neg e, if_neg (by simp; omega)]; simp
theorem rcW_zero (m : Nat) : rcW m [] = List.replicate m 0 := by
  unfold rcW
  rw [List.eq_replicate_iff]
  exact ⟨by simp, fun x hx => by obtain ⟨h, _, rfl⟩ := List.mem_map.1 hx; simp [rc1, wz_zero]⟩
set_option maxRecDepth 100000 in
set_option maxHeartbeats 3200000 in
theorem refs_callsW (m : Nat) (u : Value) (ls : List (List Slt)) (w : World) (hu : SlR w u ls) (ht : Bnd ls) (hm : m ≤ 1048576) :
    Calls Try.prog 21 #[.int .i64 (m : Int), u] w fun e w' => ∃ v, e = .returned v ∧ w'.ownsRow w.heap.size 3 1 v m ((rcW m ls.flatten).flatMap intC) ∧ Fr [] w w' := by
  obtain ⟨i0, hi, hz0, hz1, hz2⟩ := info_parts infoInt
  obtain ⟨a, cap, rfl, hlc, hcm⟩ := hu.open
  obtain ⟨vs, hR⟩ := hu.rows
  have hvl := hR.1
  have B2 := Blk.new w [.int .i64 (m : Int)] 3
  have hf0 := (Fr.refl [] w).alloc (.cells #[.int .i64 (m : Int)] 3)
  refine calls_marks Try.func21 rfl ?_
  simp only [Try.ntmps21, List.size_toArray, List.length_cons, List.length_nil, Nat.reduceAdd, Nat.reduceSub, Array.replicate_succ, Array.replicate_zero, List.push_toArray, List.append_toArray, List.nil_append, List.cons_append]
  go_wp2_with (at_make; refine wpList_make_full _ rfl _ _ 22 rfl w.heap.size 3 i0 _ 1 Try.underlying22 hi hz0 hz1 _ _ _ _ m rfl rfl rfl rfl (by rw [hz2]; omega) (by unfold maxLen; omega) (by simp) ?_; intro w1 hown hg)
  have hF1 := hf0.trans (Fr.of_grown hg) (fun x hx => by simp at hx)
  rw [show (w.alloc (.cells #[.int .i64 (m : Int)] 3)).heap.size = w.heap.size + 1 by simp] at hown
  replace hown : w1.ownsRow w.heap.size 3 1 (.slice (some ⟨w.heap.size + 1, 0, none⟩) m m) m (madeCells #[.int .i64 0] (m * 1)).toList := hown
  rw [made_ints, ← rcW_zero] at hown
  have B2' := B2.fr (Fr.of_grown hg) (by simp)
  have B5 := Blk.new w1 [.slice (some ⟨w.heap.size + 1, 0, none⟩) m m] 22
  have hfa := (Fr.refl [] w1).alloc (.cells #[.slice (some ⟨w.heap.size + 1, 0, none⟩) m m] 22)
  have hz1 := (hown.lt (w.heap.size + 1) (by simp [Value.ownBlock])).2
  have hz5 := B5.lt
  go_wp2_with fail
  refine (all_calls _ _ ⟨_, _, _, rfl⟩).mono ?_
  rintro e w2 ⟨bt, rfl, hbt, hf2, hb2⟩
  have hf12 := hfa.trans0 hf2
  have hF2 := hF1.trans0 hf12
  replace hown := owns_fr hown hf12 (by simp)
  replace B2' := B2'.fr0 hf12
  replace B5 := B5.fr0 hf2
  have hz2 := hf2.size
  simp only [World.size_alloc] at hb2 hz5 hz2
  have hRt := hR.rowsW ht
  have hcA := hR.cumAll
  have hseq := all_seqW bt a cap vs w2 (by rw [hvl]; exact hbt) (by rw [hvl]; exact (hR.fr0 hF2).2.1) hRt
  rw [hcA] at hseq
  have heg : ∀ args w, (callFunc 32 args).run Try.prog w = .ok (.enter 32 args) w := enters_of Try.func32 (by kernel_rfl) rfl
  have hab : 0 < vs.length → ∀ p, a = some p → p.block < w.heap.size := fun h0 p hp => by
    obtain ⟨b, off, he, hb, _⟩ := Sl.cellAt hR.2.1 h0
    rw [hp] at he
    cases he
    exact hb
  clear hbt hf2 hfa hcA
  generalize hfs : ls.flatten = fs at *
  go_wp2_with fail
  refine wp_rangeFunc_seqL rfl heg hseq (Fr.refl _ _) (fun k f A => f = [w.heap.size + 1] ∧ Blk A w.heap.size [.int .i64 (m : Int)] 3 ∧ Blk A w1.heap.size [.slice (some ⟨w.heap.size + 1, 0, none⟩) m m] 22 ∧ A.ownsRow w.heap.size 3 1 (.slice (some ⟨w.heap.size + 1, 0, none⟩) m m) m ((rcW m (fs.take k)).flatMap intC) ∧ Fr [] w A) (fun _ _ _ => False) [w.heap.size + 1] ?st (fun _ _ _ _ _ h _ _ => h) (by simp) ?fp ⟨rfl, B2', B5, by simpa using hown, hF2⟩ ?round ?done (fun _ _ _ _ _ _ h _ => h.elim)
  case fp =>
    intro x hx
    have := List.mem_singleton.1 hx
    subst this
    refine ⟨by omega, fun h => ?_⟩
    rcases h with h | ⟨h0, p, hp, he⟩
    · omega
    · have := hab h0 p hp; omega
  case st =>
    rintro k f A B M' ⟨rfl, h2, h5, ho, hf⟩ hF hM
    have nM : ∀ y ∈ M', w2.heap.size ≤ y := fun y hy => by rcases hM y hy with h | h; cases h; exact h.1
    exact ⟨rfl, h2.fr hF (fun h => by have := nM _ h; omega), h5.fr hF (fun h => by have := nM _ h; omega), owns_fr ho hF (fun x hx h => by simp [Value.ownBlock] at hx; have := nM _ h; omega), hf.trans hF (fun x hx hl => by have := nM x hx; omega)⟩
  case round =>
    rintro lp k f A args h1 h2 h3 h4 hkk ⟨hfe, hB2, hB5, ho, hf⟩ ⟨i, kk, pb, hi2, hk2, hMk, hpb, rfl, hBp⟩ ⟨rr, hrr⟩
    refine ⟨rfl, ?_⟩
    clear hseq heg
    have hne : pb ≠ lp := fun e => by subst e; unfold Blk at hBp; rw [hBp] at hrr; cases hrr
    gi_wp2
    refine ⟨⟨hfe, hB2, hB5, ho, hf⟩, Fr.refl _ _, ?_⟩
    clear hB2 hB5 ho hf hfe
    rintro A2 ⟨rfl, hB2, hB5, ho, hf⟩ hF2 hsz2
    have hBp2 := hBp.fr hF2 (by simpa using hne)
    obtain ⟨hss, hkl, hget⟩ := hR.slot hi2 hk2
    rw [hfs, ← hMk] at hget
    obtain ⟨hbb, d0, d1, d2⟩ := hss.rowAt hkl
    rw [← hget] at d0 d1 d2
    have Hyes := fun H => rcW_yes (m := m) (l := fs) (j := k) (H := H) hkk
    have Hno := rcW_no (m := m) (l := fs) (j := k) hkk
    have Hhost := fun h => has_host (s := fs.getD k zS) (m := m) h
    clear hget hss hBp hF2 hMk hi2 hk2 hkl
    generalize rowB (vs.getD i undef) = rb at *
    generalize rowO (vs.getD i undef) + kk * 3 = ro at *
    generalize fs.getD k zS = s at *
    obtain ⟨p, q, r⟩ := s
    simp only at d0 d1 d2 Hyes Hhost
    have hFd : Fr [] A2 A2.drew := (Fr.refl _ _).drew
    have hfd := hf.trans0 hFd
    have hB2d := hB2.fr0 hFd
    have hB5d := hB5.fr0 hFd
    have hod := owns_fr ho hFd (by simp)
    have hBpd := hBp2.fr0 hFd
    have hcell : ∀ X, Fr [] w X → X.cell? ⟨rb, ro, none⟩ = some (.int .i64 p) ∧ X.cell? ⟨rb, ro + 1, none⟩ = some (.int .i64 q) ∧ X.cell? ⟨rb, ro + 2, none⟩ = some (.bool r) := fun X hX => ⟨(World.cell?_of_block (hX.block rb hbb (by simp))).trans d0, (World.cell?_of_block (hX.block rb hbb (by simp))).trans d1, (World.cell?_of_block (hX.block rb hbb (by simp))).trans d2⟩
    clear d0 d1 d2
    gi_wp2_with fail
    refine wpIn_region_G (Fr [] A2.drew) [(true, 0), (true, 1), (true, 2), (true, 3), (true, 4), (true, 5), (true, 6), (false, 7)] (by as_aux_lemma => kernel_rfl) (by as_aux_lemma => kernel_rfl) (Fr.refl _ _) ?_
    simp only [inOrder, List.map_cons, List.map_nil, List.getD_cons_zero, List.getD_cons_succ]
    iterate 3
      refine wpG_pure fun K hK => ?_
      go_simp
      refine hK _ ?_
      clear hK K
    refine wpG_val (.pointer (some ⟨rb, ro, none⟩)) (by first | rfl | go_simp) (fun X hX => by have cc := (hBpd.fr0 hX).cell; go_simp) ?_
    simp only [Act.put, List.setIfInBounds_toArray, List.set_cons_zero, List.set_cons_succ]
    iterate 1
      refine wpG_pure fun K hK => ?_
      go_simp
      refine hK _ ?_
      clear hK K
    refine wpG_val (.agg #[.int .i64 p, .int .i64 q, .bool r]) (by first | rfl | go_simp) (fun X hX => by obtain ⟨e0, e1, e2⟩ := hcell X (hfd.trans0 hX); go_simp) ?_
    simp only [Act.put, List.setIfInBounds_toArray, List.set_cons_zero, List.set_cons_succ]
    refine wpG_val (.int .i64 m) (by first | rfl | go_simp) (fun X hX => by have cc := (hB2d.fr0 hX).cell; go_simp) ?_
    simp only [Act.put, List.setIfInBounds_toArray, List.set_cons_zero, List.set_cons_succ]
    refine wpG_one fun K hK => ?_
    go_simp
    refine (has_calls p q r (m : Int) _).mono ?_
    rintro e w6 ⟨rfl, hf6⟩
    refine hK _ _ (hf6) ?_
    clear hK K
    refine wpG_end ?_
    have hf26 := hFd.trans0 hf6
    have hf6w := hfd.trans0 hf6
    have h2 := hB2d.fr0 hf6
    have h5 := hB5d.fr0 hf6
    have ho6 := owns_fr hod hf6 (by simp)
    have hp6 := hBpd.fr0 hf6
    clear hB2d hB5d hod hBpd hB2 hB5 ho hBp2 hfd hf6 hFd
    cases hh : hasS (p, q, r) (m : Int) with
    | false =>
      have e1 := Hno hh
      clear Hyes Hno Hhost hcell
      gi_wp2
      exact ⟨_, ⟨rfl, h2, h5, by rw [e1]; exact ho6, hf6w⟩, hf26.weak, fun z hz => ⟨by have := List.mem_singleton.1 hz; subst this; have := hf26.size; omega, .inl hz⟩⟩
    | true =>
      obtain ⟨H, hqH, hHm⟩ := Hhost hh
      subst hqH
      have e1 := Hyes H hh rfl hHm
      clear Hyes Hno Hhost
      have hVd := rcW_getD (fs.take k) hHm
      have hrl := rcW_length m (fs.take k)
      have hxs : (((rcW m (fs.take k)).flatMap intC))[H]? = some (.int .i64 (wz (rc1 (m : Int) (H : Int) (fs.take k)))) := by
        rw [flatI_at, getD_some 0 (by rw [hrl]; exact hHm), hVd]; rfl
      have hw1 := wz_succ (rc1 (m : Int) (H : Int) (fs.take k))
      generalize wz (rc1 (m : Int) (H : Int) (fs.take k) + 1) = Y at *
      generalize wz (rc1 (m : Int) (H : Int) (fs.take k)) = V at *
      generalize hRL : rcW m (fs.take k) = RL at *
      clear hVd
      have hFd : Fr [] w6 w6.drew := (Fr.refl _ _).drew
      have h2d := h2.fr0 hFd
      have h5d := h5.fr0 hFd
      have hod := owns_fr ho6 hFd (by simp)
      have hpd := hp6.fr0 hFd
      have hfd := hf6w.trans0 hFd
      have hlbt := (ho6.lt (w.heap.size + 1) (by simp [Value.ownBlock])).2
      obtain ⟨q1, q2⟩ := owns_at hod hxs
      gi_wp2_with fail
      refine wpIn_region_Z 12 (Fr [] w6.drew) [(true, 0), (true, 1), (true, 2), (true, 3), (true, 4), (true, 5), (true, 6), (true, 7), (true, 8), (true, 9), (true, 10), (true, 11)] (by as_aux_lemma => kernel_rfl) (by as_aux_lemma => kernel_rfl) (Fr.refl _ _) ?_
      simp only [inOrder, List.map_cons, List.map_nil, List.getD_cons_zero, List.getD_cons_succ]
      refine wpG_val (.slice (some ⟨w.heap.size + 1, 0, none⟩) m m) (by first | rfl | go_simp) (fun X hX => by have cc := (h5d.fr0 hX).cell; go_simp) ?_
      simp only [Act.put, List.setIfInBounds_toArray, List.set_cons_zero, List.set_cons_succ]
      iterate 3
        refine wpG_pure fun K hK => ?_
        go_simp
        refine hK _ ?_
        clear hK K
      refine wpG_val (.pointer (some ⟨rb, ro, none⟩)) (by first | rfl | go_simp) (fun X hX => by have cc := (hpd.fr0 hX).cell; go_simp) ?_
      simp only [Act.put, List.setIfInBounds_toArray, List.set_cons_zero, List.set_cons_succ]
      iterate 2
        refine wpG_pure fun K hK => ?_
        go_simp
        refine hK _ ?_
        clear hK K
      refine wpG_val (.int .i64 H) (by first | rfl | go_simp) (fun X hX => by obtain ⟨e0, e1, e2⟩ := hcell X (hfd.trans0 hX); go_simp) ?_
      simp only [Act.put, List.setIfInBounds_toArray, List.set_cons_zero, List.set_cons_succ]
      iterate 1
        refine wpG_pure fun K hK => ?_
        go_simp
        refine hK _ ?_
        clear hK K
      refine wpG_val (.int .i64 V) (by first | rfl | go_simp) (fun X hX => by have cc := (owns_at (owns_fr hod hX (by simp)) hxs).1; go_simp) ?_
      simp only [Act.put, List.setIfInBounds_toArray, List.set_cons_zero, List.set_cons_succ]
      iterate 2
        refine wpG_pure fun K hK => ?_
        go_simp
        refine hK _ ?_
        clear hK K
      refine wpG_last fun K hK => ?_
      go_simp
      refine hK _ _ ?_
      clear hK K
      have hs1 : Fr [w.heap.size + 1] A2 (w6.drew.setCell ⟨w.heap.size + 1, H, none⟩ (.int .i64 Y)) := (hf26.trans0 hFd).weak.setCell (.inl (by simp)) _
      have hput := owns_put hod H (.int .i64 Y)
      rw [← flatI_set, ← e1] at hput
      have hB2' := h2d.other (p := ⟨w.heap.size + 1, H, none⟩) (by simp) (.int .i64 Y)
      have hB5' := h5d.other (p := ⟨w.heap.size + 1, H, none⟩) (by simp; omega) (.int .i64 Y)
      have hfw' : Fr [] w (w6.drew.setCell ⟨w.heap.size + 1, H, none⟩ (.int .i64 Y)) := hfd.setCell (.inr (by simp)) _
      gi_wp2
      exact ⟨_, ⟨rfl, hB2', hB5', hput, hfw'⟩, hs1, fun z hz => ⟨by have := List.mem_singleton.1 hz; subst this; have := hs1.size; simp; omega, .inl hz⟩⟩
  case done =>
    rintro D f W h1 h2 ⟨rfl, hB2, hB5, ho, hf⟩ hK
    rw [List.take_length] at ho
    clear hseq heg
    have c5 := hB5.cell
    go_wp2
    have hDl := (Array.getElem?_eq_some_iff.1 hK).1
    rw [hfs.symm] at ho
    refine leave_mark (v := .slice (some ⟨w.heap.size + 1, 0, none⟩) m m) rfl hK (fun W' hF => by simp [results, Try.results21, go_sem]) fun W' hF => ⟨_, rfl, owns_fr ho hF (fun x hx h => by simp [Value.ownBlock] at hx; simp at h; omega), hf.trans1 hF (by omega)⟩
end Go.Proofs.Ytmbbmombhkaeoaa
