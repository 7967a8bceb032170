/-
  Rows of slots by their addresses; check.refs.
-/
import Derived.Test.YtmbbmombhkaeoaaChkE
import Derived.Test.YtmbbmombhkaeoaaChkI
import Derived.Test.YtmbbmombhkaeoaaHeldZ
namespace Go.Proofs.Ytmbbmombhkaeoaa
open Go.RowKit Go.Maps
attribute [local go_sem] Oper.semAt_some
attribute [local go_sem high] equalSlot0 equalSlotR0

/-! ### rows -/
def RowsV (w : World) (v : Value) (vs : List Value) (ls : List (List Slt)) : Prop := vs.length = ls.length ∧ Sl w v ls.length vs ∧ ∀ i u, vs[i]? = some u → SlS w u (ls.getD i [])
theorem SlR.rows {w : World} {v : Value} {ls : List (List Slt)} (h : SlR w v ls) : ∃ vs, RowsV w v vs ls := h
theorem Sl.frN {L : List Nat} {w w' : World} {v : Value} {n : Nat} {xs : List Value} (h : Sl w v n xs) (hf : Fr L w w') (hL : ∀ x ∈ L, w.heap.size ≤ x) : Sl w' v n xs := by
  obtain ⟨a, cap, rfl, h1, h2, hc⟩ := h
  refine ⟨a, cap, rfl, h1, h2, ?_⟩
  rcases hc with he | ⟨b, off, rfl, hb, hc⟩
  · exact .inl he
  · exact SlC.fr (.inr ⟨b, off, rfl, hb, hc⟩) hf fun p hp hm => by cases hp; have := hL _ hm; simp at this; omega
theorem RowsV.frN {L : List Nat} {w w' : World} {v : Value} {vs : List Value} {ls : List (List Slt)} (h : RowsV w v vs ls) (hf : Fr L w w') (hL : ∀ x ∈ L, w.heap.size ≤ x) : RowsV w' v vs ls :=
  ⟨h.1, h.2.1.frN hf hL, fun i u hu => Sl.frN (h.2.2 i u hu) hf hL⟩
theorem RowsV.fr0 {w w' : World} {v : Value} {vs : List Value} {ls : List (List Slt)} (h : RowsV w v vs ls) (hf : Fr [] w w') : RowsV w' v vs ls := h.frN hf (by simp)
theorem RowsV.rows {w : World} {v : Value} {vs : List Value} {ls : List (List Slt)} (h : RowsV w v vs ls) (ht : tot ls ≤ 1048576) : ∀ u ∈ vs, RowV u := by
  intro u hu
  obtain ⟨i, hi, rfl⟩ := List.getElem_of_mem hu
  have hs := h.2.2 i _ (List.getElem?_eq_getElem hi)
  obtain ⟨a, cap, he, hlc, hcm, hat⟩ := hs.open
  have hlen := tot_at (ls := ls) (k := i) (by rw [← h.1]; exact hi)
  refine ⟨a, _, cap, he, by omega, fun h0 => ?_⟩
  obtain ⟨b, off, hab, _⟩ := hat 3 (fun _ => rfl) (by omega) 0 _ (getD_some zS h0)
  exact ⟨b, off, hab⟩
theorem RowsV.rowN {w : World} {v : Value} {vs : List Value} {ls : List (List Slt)} (h : RowsV w v vs ls) {i : Nat} (hi : i < vs.length) : rowN (vs.getD i undef) = (ls.getD i []).length := by
  have hs := h.2.2 i _ (getD_some undef hi)
  obtain ⟨a, cap, he, _⟩ := hs.open
  rw [he]
  rfl
theorem SlS.rowAt {w : World} {u : Value} {l : List Slt} (h : SlS w u l) {k : Nat} (hk : k < l.length) : rowB u < w.heap.size ∧
    w.cell? ⟨rowB u, rowO u + k * 3, none⟩ = some (.int .i64 (l.getD k zS).1) ∧ w.cell? ⟨rowB u, rowO u + k * 3 + 1, none⟩ = some (.int .i64 (l.getD k zS).2.1) ∧ w.cell? ⟨rowB u, rowO u + k * 3 + 2, none⟩ = some (.bool (l.getD k zS).2.2) := by
  obtain ⟨a, cap, rfl, _⟩ := h.open
  obtain ⟨b, off, rfl, hb, c0, c1, c2⟩ := SlS.at h hk
  exact ⟨hb, c0, c1, c2⟩
theorem flat_get : ∀ (ls : List (List Slt)) (i k : Nat), i < ls.length → k < (ls.getD i []).length → ls.flatten.getD (((ls.take i).map List.length).sum + k) zS = (ls.getD i []).getD k zS
  | l :: ls, 0, k, _, hk => by
    simp only [List.take_zero, List.map_nil, List.sum_nil, Nat.zero_add, List.flatten_cons, List.getD_cons_zero] at hk ⊢
    rw [List.getD_eq_getElem?_getD, List.getElem?_append_left hk, ← List.getD_eq_getElem?_getD]
  | l :: ls, i + 1, k, hi, hk => by
    simp only [List.take_succ_cons, List.map_cons, List.sum_cons, List.flatten_cons, List.getD_cons_succ] at hk ⊢
    rw [List.getD_eq_getElem?_getD, List.getElem?_append_right (by omega), show l.length + ((ls.take i).map List.length).sum + k - l.length = ((ls.take i).map List.length).sum + k by omega, ← List.getD_eq_getElem?_getD]
    exact flat_get ls i k (by simpa using hi) hk
theorem RowsV.cum {w : World} {v : Value} {vs : List Value} {ls : List (List Slt)} (h : RowsV w v vs ls) {i : Nat} (hi : i ≤ vs.length) : cum vs i = ((ls.take i).map List.length).sum := by
  induction i with
  | zero => simp [cum_zero]
  | succ i ih =>
    rw [cum_succ (by omega), ih (by omega), h.rowN (by omega)]
    have hil : i < ls.length := by rw [← h.1]; omega
    have hg : ls[i] = ls.getD i [] := by rw [List.getD_eq_getElem?_getD, List.getElem?_eq_getElem hil]; rfl
    rw [List.take_succ_eq_append_getElem hil, hg, List.map_append, List.sum_append]
    simp
theorem RowsV.cumAll {w : World} {v : Value} {vs : List Value} {ls : List (List Slt)} (h : RowsV w v vs ls) : Go.Proofs.Ytmbbmombhkaeoaa.cum vs vs.length = ls.flatten.length := by
  rw [h.cum (Nat.le_refl _), h.1, List.take_length, List.length_flatten]
/-- slot m of all, by its row and its place there -/
theorem RowsV.slot {w : World} {v : Value} {vs : List Value} {ls : List (List Slt)} (h : RowsV w v vs ls) {i k : Nat} (hi : i < vs.length) (hk : k < Go.Proofs.Ytmbbmombhkaeoaa.rowN (vs.getD i undef)) :
    SlS w (vs.getD i undef) (ls.getD i []) ∧ k < (ls.getD i []).length ∧ ls.flatten.getD (Go.Proofs.Ytmbbmombhkaeoaa.cum vs i + k) zS = (ls.getD i []).getD k zS := by
  have hs := h.2.2 i _ (getD_some undef hi)
  rw [h.rowN hi] at hk
  refine ⟨hs, hk, ?_⟩
  rw [h.cum (Nat.le_of_lt hi)]
  exact flat_get ls i k (by rw [← h.1]; exact hi) hk
/-! ### counts -/
def rcL (m : Nat) (l : List Slt) : List Int := (List.range m).map fun (h : Nat) => ((rc1 (m : Int) (h : Int) l : Nat) : Int)
theorem rcL_length (m : Nat) (l : List Slt) : (rcL m l).length = m := by simp [rcL]
theorem rcL_getD {m h : Nat} (l : List Slt) (hh : h < m) : (rcL m l).getD h 0 = ((rc1 (m : Int) (h : Int) l : Nat) : Int) := by
  rw [List.getD_eq_getElem?_getD, List.getElem?_eq_getElem (by rw [rcL_length]; exact hh)]
  simp [rcL]
theorem has_host {s : Slt} {m : Nat} (h : hasS s (m : Int) = true) : ∃ H : Nat, s.2.1 = (H : Int) ∧ H < m := by
  unfold hasS rightS at h
  simp only [Bool.and_eq_true, decide_eq_true_eq] at h
  obtain ⟨⟨h1, h2⟩, h3⟩ := h
  rw [if_pos h2] at h1
  simp at h1
  exact ⟨s.2.1.toNat, by omega, by omega⟩
theorem rcL_no {m : Nat} {l : List Slt} {j : Nat} (hj : j < l.length) (hh : hasS (l.getD j zS) (m : Int) = false) : rcL m (l.take (j + 1)) = rcL m (l.take j) := by
  unfold rcL
  apply List.map_congr_left
  intro h _
  rw [rc1_step hj, hh]
  simp
theorem rcL_yes {m : Nat} {l : List Slt} {j H : Nat} (hj : j < l.length) (hh : hasS (l.getD j zS) (m : Int) = true) (hH : (l.getD j zS).2.1 = (H : Int)) (hm : H < m) : rcL m (l.take (j + 1)) = (rcL m (l.take j)).set H ((rcL m (l.take j)).getD H 0 + 1) := by
  rw [rcL_getD _ hm]
  apply List.ext_getElem
  · simp [rcL_length]
  · intro i h1 h2
    rw [rcL_length] at h1
    rw [List.getElem_set]
    simp only [rcL, List.getElem_map, List.getElem_range]
    rw [rc1_step hj, hh, hH]
    by_cases e : H = i
    · subst e; simp
    · rw [if_neg e, if_neg (by simp; omega)]; simp
theorem rcL_zero (m : Nat) : rcL m [] = List.replicate m 0 := by
  unfold rcL
  rw [List.eq_replicate_iff]
  exact ⟨by simp, fun x hx => by obtain ⟨h, _, rfl⟩ := List.mem_map.1 hx; simp [rc1]⟩
theorem made_ints (n : Nat) : (madeCells #[.int .i64 0] (n * 1)).toList = (List.replicate n (0 : Int)).flatMap intC := by
  apply List.ext_getElem
  · simp [madeCells, List.length_flatMap]
  · intro k h1 h2
    have hk : k < n := by simpa [madeCells] using h1
    have := flat_at intC 1 (fun _ => rfl) (List.replicate n (0 : Int)) k 0 (by omega)
    rw [Nat.mul_one, Nat.add_zero, List.getElem?_eq_getElem h2, List.getElem?_replicate, if_pos hk] at this
    simp only [madeCells, Array.getElem_toList, Array.getElem_map, Array.getElem_range]
    simp at this
    rw [this]
    show #[Value.int IntKind.i64 0][k % 1]! = _
    rw [Nat.mod_one]
    rfl
theorem flatI_at (l : List Int) (i : Nat) : (l.flatMap intC)[i]? = (l[i]?).map (Value.int .i64) := by
  have := flat_at intC 1 (fun _ => rfl) l i 0 (by omega)
  simp only [Nat.mul_one, Nat.add_zero] at this
  rw [this]
  cases l[i]? <;> rfl
theorem flatI_set (l : List Int) (i : Nat) (x : Int) : (l.set i x).flatMap intC = (l.flatMap intC).set i (.int .i64 x) := by
  have fl : ∀ l : List Int, (l.flatMap intC).length = l.length := fun l => by induction l <;> simp_all
  have fa : ∀ (l : List Int) (i : Nat), (l.flatMap intC)[i]? = (l[i]?).map (Value.int .i64) := fun l i => by
    have := flat_at intC 1 (fun _ => rfl) l i 0 (by omega)
    simp only [Nat.mul_one, Nat.add_zero] at this
    rw [this]
    cases l[i]? <;> rfl
  apply List.ext_getElem?
  intro k
  rw [fa, List.getElem?_set, List.getElem?_set, fl, fa]
  by_cases h : i = k
  · subst h
    simp only [if_true]
    split <;> rfl
  · rw [if_neg h, if_neg h]
set_option maxRecDepth 100000 in
set_option maxHeartbeats 3200000 in
theorem refs_calls (m : Nat) (u : Value) (ls : List (List Slt)) (w : World) (hu : SlR w u ls) (ht : tot ls ≤ 1048576) (hm : m ≤ 1048576) :
    Calls Try.prog 21 #[.int .i64 (m : Int), u] w fun e w' => ∃ v, e = .returned v ∧ w'.ownsRow w.heap.size 3 1 v m ((rcL m ls.flatten).flatMap intC) ∧ Fr [] w w' := by
  obtain ⟨i0, hi, hz0, hz1, hz2⟩ := info_parts infoInt
  obtain ⟨a, cap, rfl, hlc, hcm⟩ := hu.open
  obtain ⟨vs, hR⟩ := hu.rows
  have hvl := hR.1
  have htf := flatten_len ls
  have B2 := Blk.new w [.int .i64 (m : Int)] 3
  have hf0 := (Fr.refl [] w).alloc (.cells #[.int .i64 (m : Int)] 3)
  refine calls_marks Try.func21 rfl ?_
  simp only [Try.ntmps21, List.size_toArray, List.length_cons, List.length_nil, Nat.reduceAdd, Nat.reduceSub, Array.replicate_succ, Array.replicate_zero, List.push_toArray, List.append_toArray, List.nil_append, List.cons_append]
  go_wp2_with (at_make; refine wpList_make_full _ rfl _ _ 22 rfl w.heap.size 3 i0 _ 1 Try.underlying22 hi hz0 hz1 _ _ _ _ m rfl rfl rfl rfl (by rw [hz2]; omega) (by unfold maxLen; omega) (by simp) ?_; intro w1 hown hg)
  have hF1 := hf0.trans (Fr.of_grown hg) (fun x hx => by simp at hx)
  rw [show (w.alloc (.cells #[.int .i64 (m : Int)] 3)).heap.size = w.heap.size + 1 by simp] at hown
  replace hown : w1.ownsRow w.heap.size 3 1 (.slice (some ⟨w.heap.size + 1, 0, none⟩) m m) m (madeCells #[.int .i64 0] (m * 1)).toList := hown
  rw [made_ints, ← rcL_zero] at hown
  have B2' := B2.fr (Fr.of_grown hg) (by simp)
  have B5 := Blk.new w1 [.slice (some ⟨w.heap.size + 1, 0, none⟩) m m] 22
  have hfa := (Fr.refl [] w1).alloc (.cells #[.slice (some ⟨w.heap.size + 1, 0, none⟩) m m] 22)
  have hz1 := (hown.lt (w.heap.size + 1) (by simp [Value.ownBlock])).2
  have hz5 := B5.lt
  go_wp2_with fail
  refine (all_calls _ _ ⟨_, _, _, rfl⟩).mono ?_
  rintro e w2 ⟨bt, rfl, hbt, hf2, hb2⟩
  have hf12 := hfa.trans0 hf2
  have hF2 := hF1.trans0 hf12
  replace hown := owns_fr hown hf12 (by simp)
  replace B2' := B2'.fr0 hf12
  replace B5 := B5.fr0 hf2
  have hz2 := hf2.size
  simp only [World.size_alloc] at hb2 hz5 hz2
  have hRt := hR.rows ht
  have hcA := hR.cumAll
  have hseq := all_seq bt a cap vs w2 (by rw [hvl]; exact hbt) (by rw [hvl]; exact (hR.fr0 hF2).2.1) hRt (by rw [hcA]; omega)
  rw [hcA] at hseq
  have heg : ∀ args w, (callFunc 32 args).run Try.prog w = .ok (.enter 32 args) w := enters_of Try.func32 (by kernel_rfl) rfl
  have hab : 0 < vs.length → ∀ p, a = some p → p.block < w.heap.size := fun h0 p hp => by
    obtain ⟨b, off, he, hb, _⟩ := Sl.cellAt hR.2.1 h0
    rw [hp] at he
    cases he
    exact hb
  clear hbt hf2 hfa hcA
  generalize hfs : ls.flatten = fs at *
  have hflen : fs.length ≤ 1048576 := by omega
  go_wp2_with fail
  refine wp_rangeFunc_seqL rfl heg hseq (Fr.refl _ _) (fun k f A => f = [w.heap.size + 1] ∧ Blk A w.heap.size [.int .i64 (m : Int)] 3 ∧ Blk A w1.heap.size [.slice (some ⟨w.heap.size + 1, 0, none⟩) m m] 22 ∧ A.ownsRow w.heap.size 3 1 (.slice (some ⟨w.heap.size + 1, 0, none⟩) m m) m ((rcL m (fs.take k)).flatMap intC) ∧ Fr [] w A) (fun _ _ _ => False) [w.heap.size + 1] ?st (fun _ _ _ _ _ h _ _ => h) (by simp) ?fp ⟨rfl, B2', B5, by simpa using hown, hF2⟩ ?round ?done (fun _ _ _ _ _ _ h _ => h.elim)
  case fp =>
    intro x hx
    have := List.mem_singleton.1 hx
    subst this
    refine ⟨by omega, fun h => ?_⟩
    rcases h with h | ⟨h0, p, hp, he⟩
    · omega
    · have := hab h0 p hp; omega
  case st =>
    rintro k f A B M' ⟨rfl, h2, h5, ho, hf⟩ hF hM
    have nM : ∀ y ∈ M', w2.heap.size ≤ y := fun y hy => by rcases hM y hy with h | h; cases h; exact h.1
    exact ⟨rfl, h2.fr hF (fun h => by have := nM _ h; omega), h5.fr hF (fun h => by have := nM _ h; omega), owns_fr ho hF (fun x hx h => by simp [Value.ownBlock] at hx; have := nM _ h; omega), hf.trans hF (fun x hx hl => by have := nM x hx; omega)⟩
  case round =>
    rintro lp k f A args h1 h2 h3 h4 hkk ⟨hfe, hB2, hB5, ho, hf⟩ ⟨i, kk, pb, hi2, hk2, hMk, hpb, rfl, hBp⟩ ⟨rr, hrr⟩
    refine ⟨rfl, ?_⟩
    clear hseq heg
    have hne : pb ≠ lp := fun e => by subst e; unfold Blk at hBp; rw [hBp] at hrr; cases hrr
    gi_wp2
    refine ⟨⟨hfe, hB2, hB5, ho, hf⟩, Fr.refl _ _, ?_⟩
    clear hB2 hB5 ho hf hfe
    rintro A2 ⟨rfl, hB2, hB5, ho, hf⟩ hF2 hsz2
    have hBp2 := hBp.fr hF2 (by simpa using hne)
    obtain ⟨hss, hkl, hget⟩ := hR.slot hi2 hk2
    rw [hfs, ← hMk] at hget
    obtain ⟨hbb, d0, d1, d2⟩ := hss.rowAt hkl
    rw [← hget] at d0 d1 d2
    have Hyes := fun H => rcL_yes (m := m) (l := fs) (j := k) (H := H) hkk
    have Hno := rcL_no (m := m) (l := fs) (j := k) hkk
    have Hhost := fun h => has_host (s := fs.getD k zS) (m := m) h
    clear hget hss hBp hF2 hMk hi2 hk2 hkl
    generalize rowB (vs.getD i undef) = rb at *
    generalize rowO (vs.getD i undef) + kk * 3 = ro at *
    generalize fs.getD k zS = s at *
    obtain ⟨p, q, r⟩ := s
    simp only at d0 d1 d2 Hyes Hhost
    have hFd : Fr [] A2 A2.drew := (Fr.refl _ _).drew
    have hfd := hf.trans0 hFd
    have hB2d := hB2.fr0 hFd
    have hB5d := hB5.fr0 hFd
    have hod := owns_fr ho hFd (by simp)
    have hBpd := hBp2.fr0 hFd
    have hcell : ∀ X, Fr [] w X → X.cell? ⟨rb, ro, none⟩ = some (.int .i64 p) ∧ X.cell? ⟨rb, ro + 1, none⟩ = some (.int .i64 q) ∧ X.cell? ⟨rb, ro + 2, none⟩ = some (.bool r) := fun X hX => ⟨(World.cell?_of_block (hX.block rb hbb (by simp))).trans d0, (World.cell?_of_block (hX.block rb hbb (by simp))).trans d1, (World.cell?_of_block (hX.block rb hbb (by simp))).trans d2⟩
    clear d0 d1 d2
    gi_wp2_with fail
    refine wpIn_region_G (Fr [] A2.drew) [(true, 0), (true, 1), (true, 2), (true, 3), (true, 4), (true, 5), (true, 6), (false, 7)] (by as_aux_lemma => kernel_rfl) (by as_aux_lemma => kernel_rfl) (Fr.refl _ _) ?_
    simp only [inOrder, List.map_cons, List.map_nil, List.getD_cons_zero, List.getD_cons_succ]
    iterate 3
      refine wpG_pure fun K hK => ?_
      go_simp
      refine hK _ ?_
      clear hK K
    refine wpG_val (.pointer (some ⟨rb, ro, none⟩)) (by first | rfl | go_simp) (fun X hX => by have cc := (hBpd.fr0 hX).cell; go_simp) ?_
    simp only [Act.put, List.setIfInBounds_toArray, List.set_cons_zero, List.set_cons_succ]
    iterate 1
      refine wpG_pure fun K hK => ?_
      go_simp
      refine hK _ ?_
      clear hK K
    refine wpG_val (.agg #[.int .i64 p, .int .i64 q, .bool r]) (by first | rfl | go_simp) (fun X hX => by obtain ⟨e0, e1, e2⟩ := hcell X (hfd.trans0 hX); go_simp) ?_
    simp only [Act.put, List.setIfInBounds_toArray, List.set_cons_zero, List.set_cons_succ]
    refine wpG_val (.int .i64 m) (by first | rfl | go_simp) (fun X hX => by have cc := (hB2d.fr0 hX).cell; go_simp) ?_
    simp only [Act.put, List.setIfInBounds_toArray, List.set_cons_zero, List.set_cons_succ]
    refine wpG_one fun K hK => ?_
    go_simp
    refine (has_calls p q r (m : Int) _).mono ?_
    rintro e w6 ⟨rfl, hf6⟩
    refine hK _ _ (hf6) ?_
    clear hK K
    refine wpG_end ?_
    have hf26 := hFd.trans0 hf6
    have hf6w := hfd.trans0 hf6
    have h2 := hB2d.fr0 hf6
    have h5 := hB5d.fr0 hf6
    have ho6 := owns_fr hod hf6 (by simp)
    have hp6 := hBpd.fr0 hf6
    clear hB2d hB5d hod hBpd hB2 hB5 ho hBp2 hfd hf6 hFd
    cases hh : hasS (p, q, r) (m : Int) with
    | false =>
      have e1 := Hno hh
      clear Hyes Hno Hhost hcell
      gi_wp2
      exact ⟨_, ⟨rfl, h2, h5, by rw [e1]; exact ho6, hf6w⟩, hf26.weak, fun z hz => ⟨by have := List.mem_singleton.1 hz; subst this; have := hf26.size; omega, .inl hz⟩⟩
    | true =>
      obtain ⟨H, hqH, hHm⟩ := Hhost hh
      subst hqH
      have e1 := Hyes H hh rfl hHm
      clear Hyes Hno Hhost
      have hVd := rcL_getD (fs.take k) hHm
      have hVb := rc1_le (m : Int) (H : Int) (fs.take k)
      have hVl : (fs.take k).length ≤ 1048576 := by simp; omega
      rw [hVd] at e1
      have hrl := rcL_length m (fs.take k)
      have hxs : (((rcL m (fs.take k)).flatMap intC))[H]? = some (.int .i64 ((rc1 (m : Int) (H : Int) (fs.take k) : Nat) : Int)) := by
        rw [flatI_at, getD_some 0 (by rw [hrl]; exact hHm), hVd]; rfl
      generalize rc1 (m : Int) (H : Int) (fs.take k) = V at *
      generalize hRL : rcL m (fs.take k) = RL at *
      have hV : V ≤ 1048576 := by omega
      clear hVd hVb hVl
      have hFd : Fr [] w6 w6.drew := (Fr.refl _ _).drew
      have h2d := h2.fr0 hFd
      have h5d := h5.fr0 hFd
      have hod := owns_fr ho6 hFd (by simp)
      have hpd := hp6.fr0 hFd
      have hfd := hf6w.trans0 hFd
      have hlbt := (ho6.lt (w.heap.size + 1) (by simp [Value.ownBlock])).2
      have hw1 : IntKind.i64.wrap ((V : Int) + 1) = ((V + 1 : Nat) : Int) := by rw [IntWalk.i64_in _ (by omega)]; omega
      obtain ⟨q1, q2⟩ := owns_at hod hxs
      gi_wp2_with fail
      refine wpIn_region_Z 12 (Fr [] w6.drew) [(true, 0), (true, 1), (true, 2), (true, 3), (true, 4), (true, 5), (true, 6), (true, 7), (true, 8), (true, 9), (true, 10), (true, 11)] (by as_aux_lemma => kernel_rfl) (by as_aux_lemma => kernel_rfl) (Fr.refl _ _) ?_
      simp only [inOrder, List.map_cons, List.map_nil, List.getD_cons_zero, List.getD_cons_succ]
      refine wpG_val (.slice (some ⟨w.heap.size + 1, 0, none⟩) m m) (by first | rfl | go_simp) (fun X hX => by have cc := (h5d.fr0 hX).cell; go_simp) ?_
      simp only [Act.put, List.setIfInBounds_toArray, List.set_cons_zero, List.set_cons_succ]
      iterate 3
        refine wpG_pure fun K hK => ?_
        go_simp
        refine hK _ ?_
        clear hK K
      refine wpG_val (.pointer (some ⟨rb, ro, none⟩)) (by first | rfl | go_simp) (fun X hX => by have cc := (hpd.fr0 hX).cell; go_simp) ?_
      simp only [Act.put, List.setIfInBounds_toArray, List.set_cons_zero, List.set_cons_succ]
      iterate 2
        refine wpG_pure fun K hK => ?_
        go_simp
        refine hK _ ?_
        clear hK K
      refine wpG_val (.int .i64 H) (by first | rfl | go_simp) (fun X hX => by obtain ⟨e0, e1, e2⟩ := hcell X (hfd.trans0 hX); go_simp) ?_
      simp only [Act.put, List.setIfInBounds_toArray, List.set_cons_zero, List.set_cons_succ]
      iterate 1
        refine wpG_pure fun K hK => ?_
        go_simp
        refine hK _ ?_
        clear hK K
      refine wpG_val (.int .i64 V) (by first | rfl | go_simp) (fun X hX => by have cc := (owns_at (owns_fr hod hX (by simp)) hxs).1; go_simp) ?_
      simp only [Act.put, List.setIfInBounds_toArray, List.set_cons_zero, List.set_cons_succ]
      iterate 2
        refine wpG_pure fun K hK => ?_
        go_simp
        refine hK _ ?_
        clear hK K
      refine wpG_last fun K hK => ?_
      go_simp
      refine hK _ _ ?_
      clear hK K
      have hs1 : Fr [w.heap.size + 1] A2 (w6.drew.setCell ⟨w.heap.size + 1, H, none⟩ (.int .i64 ((V : Int) + 1))) := (hf26.trans0 hFd).weak.setCell (.inl (by simp)) _
      have hput := owns_put hod H (.int .i64 ((V : Int) + 1))
      rw [← flatI_set, ← e1] at hput
      have hB2' := h2d.other (p := ⟨w.heap.size + 1, H, none⟩) (by simp) (.int .i64 ((V : Int) + 1))
      have hB5' := h5d.other (p := ⟨w.heap.size + 1, H, none⟩) (by simp; omega) (.int .i64 ((V : Int) + 1))
      have hfw' : Fr [] w (w6.drew.setCell ⟨w.heap.size + 1, H, none⟩ (.int .i64 ((V : Int) + 1))) := hfd.setCell (.inr (by simp)) _
      gi_wp2
      exact ⟨_, ⟨rfl, hB2', hB5', hput, hfw'⟩, hs1, fun z hz => ⟨by have := List.mem_singleton.1 hz; subst this; have := hs1.size; simp; omega, .inl hz⟩⟩
  case done =>
    rintro D f W h1 h2 ⟨rfl, hB2, hB5, ho, hf⟩ hK
    rw [List.take_length] at ho
    clear hseq heg
    have c5 := hB5.cell
    go_wp2
    have hDl := (Array.getElem?_eq_some_iff.1 hK).1
    rw [hfs.symm] at ho
    refine leave_mark (v := .slice (some ⟨w.heap.size + 1, 0, none⟩) m m) rfl hK (fun W' hF => by simp [results, Try.results21, go_sem]) fun W' hF => ⟨_, rfl, owns_fr ho hF (fun x hx h => by simp [Value.ownBlock] at hx; simp at h; omega), hf.trans1 hF (by omega)⟩
end Go.Proofs.Ytmbbmombhkaeoaa
