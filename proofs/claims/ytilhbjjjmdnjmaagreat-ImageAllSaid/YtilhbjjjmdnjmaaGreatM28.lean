/-
  Package image: all, more.
-/
import Derived.Test.YtilhbjjjmdnjmaaGreatM22
import Derived.Test.YtilhbjjjmdnjmaaGreatM27
import Derived.Test.YtilhbjjjmdnjmaaGreatM15
namespace Go.Proofs.YtilhbjjjmdnjmaaGreat
open Go.RowKit Go.Maps
attribute [local go_sem] Oper.semAt_some
attribute [local go_sem] mapAt_alloc mapAt_setCell mapAt_drew mapAt_drewN

theorem eachS_getD {l : List Slt} {k : Nat} (hk : k < (listed l).length) : (eachS l).getD k zS = l.getD ((listed l).getD k 0) zS := by
  unfold eachS
  simp only [List.getD_eq_getElem?_getD, List.getElem?_map, List.getElem?_eq_getElem hk]
  rfl
theorem eachS_len (l : List Slt) : (eachS l).length = (listed l).length := by simp [eachS]
theorem takeS_succ {q : List Slt} {k : Nat} (hk : k < q.length) : q.take (k + 1) = q.take k ++ [q.getD k zS] := by
  have hg : q[k] = q.getD k zS := by rw [List.getD_eq_getElem?_getD, List.getElem?_eq_getElem hk]; rfl
  rw [List.take_succ_eq_append_getElem hk, hg]
theorem cntT_take (q : List Slt) (k h : Nat) : cntT (q.take k) h ≤ cntT q h := by
  have := cntT_append (q.take k) (q.drop k) h
  rw [List.take_append_drop] at this
  omega
theorem lessL_succ (M : Img) {q : List Slt} {k : Nat} (hk : k < q.length) : lessL M (q.take (k + 1)) = lessI (lessL M (q.take k)) (q.getD k zS) := by
  rw [takeS_succ hk]; unfold lessL; rw [List.foldl_append]; rfl
theorem moreL_succ (M : Img) {q : List Slt} {k : Nat} (hk : k < q.length) : moreL M (q.take (k + 1)) = moreI (moreL M (q.take k)) (q.getD k zS) := by
  rw [takeS_succ hk]; unfold moreL; rw [List.foldl_append]; rfl
/-- what may be taken from the counts -/
theorem lessL_live {M : Img} {q : List Slt} (hr : ∀ s ∈ q, s.1 = 1 → rightS s = true) (hle : ∀ h, cntT q h ≤ ng M h) {k : Nat} (hk : k < q.length) : liveS (lessL M (q.take k)) (q.getD k zS) := fun h1 => by
  have hm : q.getD k zS ∈ q := getD_memS hk
  refine ⟨hr _ hm h1, ?_⟩
  have hlt : ∀ s ∈ q, s.1 = 1 → hst s < M.n.length := fun s hs h1 => ng_lt (M := M) (by have := hle (hst s); have h2 : 0 < cntT q (hst s) := cntT_pos.2 ⟨s, hs, h1, rfl⟩; omega)
  rw [lessL_n _ _ (fun s hs => hlt s (List.mem_of_mem_take hs))]
  have h1' := cntT_take q (k + 1) (hst (q.getD k zS))
  rw [takeS_succ hk, cntT_append, cntT_cons, if_pos (isH_iff.2 ⟨h1, rfl⟩)] at h1'
  have := hle (hst (q.getD k zS))
  omega
theorem eachS_right {l : List Slt} (hr : ∀ s ∈ l, rightS s = true) : ∀ s ∈ eachS l, s.1 = 1 → rightS s = true := fun s hs h1 => hr s (eachS_mem hs h1)
def notC (p : Pl) (k : Nat) : Prop := p.r k ≠ some 4 ∧ p.r k ≠ some 5
theorem leave_mark_end {P : Program} {fn : Func} {R : Ending → World → Prop} {a : Act} {W : World} {D : Nat} {v : Value} (hd : a.defers = [markOf D]) (hK : W.heap[D]? = some (.deferred (some [])))
    (hr : ∀ W', Fr [D] W W' → (results fn a.tmps).run P W' = .ok v W') (hR : ∀ W', Fr [D] W W' → R (.returned v) W') : bodyPostM Fence.wide 0 P fn R .normal a W := leave_mark (a := a) hd hK hr hR
section
variable {ib : Nat} {p : Pl} {M : Img}
set_option maxRecDepth 100000 in
set_option maxHeartbeats 1600000 in
theorem iAll_calls (tb mb : Nat) (l : List Slt) (w : World) (h : ImgW w ib p M) (hT : TabW w tb mb l) (hlen : l.length ≤ 256) (hr : ∀ s ∈ l, rightS s = true) (hle : ∀ k, cntT l k ≤ ng M k) (ht : notC p tb) (hm : notC p mb) :
    Calls Tryz.prog 57 #[.pointer (some ⟨ib, 0, none⟩), .pointer (some ⟨tb, 0, none⟩)] w (lessPost w ib p (lessL M (eachS l))) := by
  have B0 := Blk.new w [.pointer (some ⟨ib, 0, none⟩)] 29
  have hF0 := (Fr.refl [] w).alloc (.cells #[.pointer (some ⟨ib, 0, none⟩)] 29)
  have h0 := h.fr0 hF0
  have hlv : ∀ k, k < (listed l).length → Hid (liveS (lessL M ((eachS l).take k)) ((eachS l).getD k zS)) := fun k hk => hidIt (lessL_live (eachS_right hr) (fun j => by rw [eachS_cnt hlen]; exact hle j) (by rw [eachS_len]; exact hk))
  have hnx : ∀ k, k < (listed l).length → Hid (lessL M ((eachS l).take (k + 1)) = lessI (lessL M ((eachS l).take k)) ((eachS l).getD k zS)) := fun k hk => hidIt (lessL_succ M (by rw [eachS_len]; exact hk))
  have hend : Hid (lessL M ((eachS l).take (listed l).length) = lessL M (eachS l)) := hidIt (by rw [← eachS_len, List.take_length])
  unfold lessPost
  refine calls_marks Tryz.func57 rfl ?_
  simp only [Tryz.ntmps57, List.size_toArray, List.length_cons, List.length_nil, Nat.reduceAdd, Nat.reduceSub, Array.replicate_succ, Array.replicate_zero, List.push_toArray, List.append_toArray, List.nil_append, List.cons_append]
  go_wp2_with fail
  refine (tEach_calls tb _).mono ?_
  rintro e w2 ⟨bt, rfl, hbt, hf2, hb2⟩
  have hF2 := hF0.trans0 hf2
  have h2 := h0.fr0 hf2
  have B2 := B0.fr0 hf2
  have hseq := tEach_seq bt tb mb l w2 hbt (hT.fr0 hF2)
  have hrb : p.r w.heap.size = none := h.new (Nat.le_refl _)
  have hbtn : p.r bt = none := h0.new hb2
  have hlb := hbt.lt
  have hlb2 := B2.lt
  have hz2 := hF2.size
  have hC : ∀ y, y ∈ ownC p w2 → y ∈ ownC p w := fun y hy => mem_ownC.2 ⟨h.low y (by rcases (mem_ownC.1 hy).2 with e | e <;> rw [e] <;> rfl), (mem_ownC.1 hy).2⟩
  have nC : ∀ y, p.r y = none → y ∉ ownC p w2 := fun y hy hm => by rcases (mem_ownC.1 hm).2 with e | e <;> rw [e] at hy <;> cases hy
  clear hF0 h0 B0 hf2 hbt hb2
  go_wp2_with fail
  refine wp_rangeFunc_seq rfl (enters_of Tryz.func103 (by kernel_rfl) rfl) hseq (Fr.refl _ _) (fun k f A => f = ownC p w2 ∧ ImgW A ib p (lessL M ((eachS l).take k)) ∧ Fr (ownC p w2) w2 A) (fun _ _ _ => False) (ownC p w2) ?st (fun _ _ _ _ _ h _ _ => h) (by simp) ?fp ⟨rfl, h2, Fr.refl _ _⟩ ?round ?done (fun _ _ _ _ _ _ h _ => h.elim)
  case fp =>
    intro y hy
    refine ⟨(mem_ownC.1 hy).1, fun e => ?_⟩
    have e2 := (mem_ownC.1 hy).2
    rcases e with rfl | rfl | rfl
    · rw [hbtn] at e2; rcases e2 with e2 | e2 <;> cases e2
    · exact e2.elim ht.1 ht.2
    · exact e2.elim hm.1 hm.2
  case st =>
    rintro k f A B M' ⟨rfl, hi, hs⟩ hF hM
    have hge : ∀ y ∈ M', w2.heap.size ≤ y := fun y hy => by rcases hM y hy with h1 | h1; cases h1; exact h1.1
    exact ⟨rfl, hi.fr hF (fun y hy => h2.new (hge y hy)), hs.trans hF (fun y hy hl => by have := hge y hy; omega)⟩
  case round =>
    rintro lp k f A args q1 q2 q3 q4 hk ⟨rfl, hi, hs⟩ rfl
    refine ⟨rfl, ?_⟩
    rw [← eachS_getD hk]
    have hl := hlv k hk
    have hx := hnx k hk
    obtain ⟨R1, hR1⟩ : ∃ R1, Hid (lessL M ((eachS l).take (k + 1)) = R1) := ⟨_, hidIt rfl⟩
    rw [hR1.out] at hx
    clear hseq hlv hnx hend hk
    generalize lessL M ((eachS l).take k) = R at *
    generalize (eachS l).getD k zS = s at *
    obtain ⟨a, b, o⟩ := s
    unfold slotV
    simp only
    have hfp := (Fr.refl [] A).alloc (.cells #[.int .i64 a, .int .i64 b, .bool o] 90)
    gi_wp2
    have Bp := Blk.new A [.int .i64 a, .int .i64 b, .bool o] 90
    have hq4 := hfp.size
    refine ⟨⟨trivial, hi.fr0 hfp, hs.trans0 hfp⟩, hfp, ?_⟩
    clear hi hs
    rintro A2 ⟨_, hi, hs⟩ hF2' hsz2
    have Bp2 := Bp.fr hF2' (by simp; omega)
    have b0 := B2.fr hs (nC _ hrb)
    have c0 := b0.cell
    have cp := Bp2.cell
    have kL := iLessF_calls (a, b, o) A2 hi hl.out
    unfold slotV at kL
    simp only at kL
    rw [← hx.out] at kL
    gi_wp2_with fail
    refine ⟨trivial, rfl, (CallsIn.inRound lp (callsIn_wide.2 kL)).mono ?_⟩
    rintro e A3 ⟨rfl, hi3, hf3⟩
    have hf3' : Fr (ownC p w2) A2 A3 := hf3.mono (fun y hy _ => mem_ownC.2 ⟨h2.low y (by rcases (mem_ownC.1 hy).2 with e | e <;> rw [e] <;> rfl), (mem_ownC.1 hy).2⟩)
    clear kL c0 cp
    gi_wp2
    exact ⟨_, ⟨rfl, by rw [hR1.out]; exact hi3, hs.trans' hf3'⟩, hf3', fun y hy => ⟨hi3.low y (by rcases (mem_ownC.1 hy).2 with e | e <;> rw [e] <;> rfl), .inl hy⟩⟩
  case done =>
    rintro D f W d1 d2 ⟨rfl, hi, hs⟩ hK
    rw [hend.out] at hi
    go_wp2
    refine leave_mark_end (v := .tuple #[]) rfl hK (fun W' _ => results_none rfl _ _ _) fun W' hF => ⟨rfl, hi.fr hF (fun y hy => by rw [List.mem_singleton.1 hy]; exact h2.new d1), ((hF2.weak (L := ownC p w)).trans hs (fun y hy _ => hC y hy)).trans1 hF (by omega)⟩
set_option maxRecDepth 100000 in
set_option maxHeartbeats 1600000 in
theorem iMore_calls (tb mb : Nat) (l : List Slt) (w : World) (h : ImgW w ib p M) (hT : TabW w tb mb l) (hlen : l.length ≤ 256) (hr : ∀ s ∈ l, rightS s = true) (hlv : ∀ s ∈ l, s.1 = 1 → 0 < ng M (hst s)) (hub : ∀ k, ng M k + cntT l k < 65535) (ht : notC p tb) (hm : notC p mb) :
    Calls Tryz.prog 55 #[.pointer (some ⟨ib, 0, none⟩), .pointer (some ⟨tb, 0, none⟩)] w (lessPost w ib p (moreL M (eachS l))) := by
  have B0 := Blk.new w [.pointer (some ⟨ib, 0, none⟩)] 29
  have hF0 := (Fr.refl [] w).alloc (.cells #[.pointer (some ⟨ib, 0, none⟩)] 29)
  have h0 := h.fr0 hF0
  have hlt : ∀ s ∈ eachS l, s.1 = 1 → hst s < M.n.length := fun s hs h1 => ng_lt (hlv s (eachS_mem hs h1) h1)
  have hfx : ∀ k, k < (listed l).length → ((eachS l).getD k zS).1 = 1 → Hid (rightS ((eachS l).getD k zS) = true ∧ 0 < ng (moreL M ((eachS l).take k)) (hst ((eachS l).getD k zS)) ∧ ng (moreL M ((eachS l).take k)) (hst ((eachS l).getD k zS)) < 65535) := fun k hk h1 => hidIt (by
    have hk' : k < (eachS l).length := by rw [eachS_len]; exact hk
    have hm := getD_memS hk'
    have e := moreL_n ((eachS l).take k) M (fun s hs => hlt s (List.mem_of_mem_take hs)) (hst ((eachS l).getD k zS))
    have h2 := cntT_take (eachS l) k (hst ((eachS l).getD k zS))
    rw [eachS_cnt hlen] at h2
    have h3 := hub (hst ((eachS l).getD k zS))
    have h4 := hlv _ (eachS_mem hm h1) h1
    exact ⟨eachS_right hr _ hm h1, by omega, by omega⟩)
  have hnx : ∀ k, k < (listed l).length → Hid (moreL M ((eachS l).take (k + 1)) = moreI (moreL M ((eachS l).take k)) ((eachS l).getD k zS)) := fun k hk => hidIt (moreL_succ M (by rw [eachS_len]; exact hk))
  have hend : Hid (moreL M ((eachS l).take (listed l).length) = moreL M (eachS l)) := hidIt (by rw [← eachS_len, List.take_length])
  unfold lessPost
  refine calls_marks Tryz.func55 rfl ?_
  simp only [Tryz.ntmps55, List.size_toArray, List.length_cons, List.length_nil, Nat.reduceAdd, Nat.reduceSub, Array.replicate_succ, Array.replicate_zero, List.push_toArray, List.append_toArray, List.nil_append, List.cons_append]
  go_wp2_with fail
  refine (tEach_calls tb _).mono ?_
  rintro e w2 ⟨bt, rfl, hbt, hf2, hb2⟩
  have hF2 := hF0.trans0 hf2
  have h2 := h0.fr0 hf2
  have B2 := B0.fr0 hf2
  have hseq := tEach_seq bt tb mb l w2 hbt (hT.fr0 hF2)
  have hrb : p.r w.heap.size = none := h.new (Nat.le_refl _)
  have hbtn : p.r bt = none := h0.new hb2
  have hlb := hbt.lt
  have hlb2 := B2.lt
  have hz2 := hF2.size
  have hC : ∀ y, y ∈ ownC p w2 → y ∈ ownC p w := fun y hy => mem_ownC.2 ⟨h.low y (by rcases (mem_ownC.1 hy).2 with e | e <;> rw [e] <;> rfl), (mem_ownC.1 hy).2⟩
  have nC : ∀ y, p.r y = none → y ∉ ownC p w2 := fun y hy hm => by rcases (mem_ownC.1 hm).2 with e | e <;> rw [e] at hy <;> cases hy
  clear hF0 h0 B0 hf2 hbt hb2
  go_wp2_with fail
  refine wp_rangeFunc_seq rfl (enters_of Tryz.func103 (by kernel_rfl) rfl) hseq (Fr.refl _ _) (fun k f A => f = ownC p w2 ∧ ImgW A ib p (moreL M ((eachS l).take k)) ∧ Fr (ownC p w2) w2 A) (fun _ _ _ => False) (ownC p w2) ?st (fun _ _ _ _ _ h _ _ => h) (by simp) ?fp ⟨rfl, h2, Fr.refl _ _⟩ ?round ?done (fun _ _ _ _ _ _ h _ => h.elim)
  case fp =>
    intro y hy
    refine ⟨(mem_ownC.1 hy).1, fun e => ?_⟩
    have e2 := (mem_ownC.1 hy).2
    rcases e with rfl | rfl | rfl
    · rw [hbtn] at e2; rcases e2 with e2 | e2 <;> cases e2
    · exact e2.elim ht.1 ht.2
    · exact e2.elim hm.1 hm.2
  case st =>
    rintro k f A B M' ⟨rfl, hi, hs⟩ hF hM
    have hge : ∀ y ∈ M', w2.heap.size ≤ y := fun y hy => by rcases hM y hy with h1 | h1; cases h1; exact h1.1
    exact ⟨rfl, hi.fr hF (fun y hy => h2.new (hge y hy)), hs.trans hF (fun y hy hl => by have := hge y hy; omega)⟩
  case round =>
    rintro lp k f A args q1 q2 q3 q4 hk ⟨rfl, hi, hs⟩ rfl
    refine ⟨rfl, ?_⟩
    rw [← eachS_getD hk]
    have hl := hfx k hk
    have hx := hnx k hk
    obtain ⟨R1, hR1⟩ : ∃ R1, Hid (moreL M ((eachS l).take (k + 1)) = R1) := ⟨_, hidIt rfl⟩
    rw [hR1.out] at hx
    clear hseq hlv hnx hend hk hfx hub hlt
    generalize moreL M ((eachS l).take k) = R at *
    generalize (eachS l).getD k zS = s at *
    obtain ⟨a, b, o⟩ := s
    unfold slotV
    simp only
    have hfp := (Fr.refl [] A).alloc (.cells #[.int .i64 a, .int .i64 b, .bool o] 90)
    gi_wp2
    have Bp := Blk.new A [.int .i64 a, .int .i64 b, .bool o] 90
    have hq4 := hfp.size
    refine ⟨⟨hi.fr0 hfp, hs.trans0 hfp⟩, ?_⟩
    clear hi hs
    rintro A2 hi hs hF2' hsz2
    have hlA2 : A.heap.size < A2.heap.size := by rw [hsz2]; simp
    have Bp2 := Bp.fr hF2' (by simp; omega)
    have hAn : A.heap.size ∉ ownC p w2 := fun hm => by have := q4 _ hm; omega
    have fin : ∀ A3, ImgW A3 ib p R1 → Fr (ownC p w2) A2 A3 → ∃ f', (f' = ownC p w2 ∧ ImgW A3 ib p (moreL M ((eachS l).take (k + 1))) ∧ Fr (ownC p w2) w2 A3) ∧ Fr (ownC p w2) A2 A3 ∧ ∀ x ∈ f', x < A3.heap.size ∧ (x ∈ ownC p w2 ∨ A2.heap.size ≤ x) := fun A3 hi3 hf3' =>
      ⟨_, ⟨rfl, by rw [hR1.out]; exact hi3, hs.trans' hf3'⟩, hf3', fun y hy => ⟨hi3.low y (by rcases (mem_ownC.1 hy).2 with e | e <;> rw [e] <;> rfl), .inl hy⟩⟩
    replace fin := hidIt fin
    have b0 := B2.fr hs (nC _ hrb)
    have c0 := b0.cell
    have cp := Bp2.cell
    by_cases ha : a = 1
    · subst ha
      obtain ⟨hrt, hpos, hbd⟩ := (hl rfl).out
      obtain ⟨hyb, h512⟩ := host_nat hrt rfl
      simp only at hyb
      have hM : moreI R (1, b, o) = { R with n := R.n.set (hst ((1 : Int), b, o)) (ng R (hst ((1 : Int), b, o)) + 1) } := by unfold moreI; rw [if_pos rfl]
      rw [hM] at hx
      generalize hst ((1 : Int), b, o) = y at *
      subst hyb
      obtain ⟨g, cap, hnv, hgl, _⟩ := hi.cnt.at (ng_lt hpos)
      have hg4 : p.r g = some 4 := hi.rr g (by rw [hnv]; rfl)
      have hd : Fr [] A2 A2.drew := (Fr.refl _ _).drew
      have hid := hi.fr0 hd
      have bid := hid.blk
      have b0d := b0.fr0 hd
      have bpd := Bp2.fr0 hd
      have kM := cMore_calls p.nb p.nv R.n A2.drew hid.cnt y hpos hbd
      have n1 : ib ∉ [g] := fun hm => by have := hi.ri; rw [List.mem_singleton.1 hm, hg4] at this; cases this
      have n2 : w.heap.size ∉ [g] := fun hm => by rw [List.mem_singleton.1 hm, hg4] at hrb; cases hrb
      have hgo : g ∈ ownC p w2 := mem_ownC.2 ⟨h2.low g (by rw [hg4]; rfl), .inl hg4⟩
      have n3 : A.heap.size ∉ [g] := fun hm => hAn (by rw [List.mem_singleton.1 hm]; exact hgo)
      gi_wp2_with fail
      refine wpIn_region_G (Fr [g] A2.drew) [(true, 0), (true, 1), (true, 2), (true, 3), (true, 4), (true, 5), (false, 6)] (by as_aux_lemma => kernel_rfl) (by as_aux_lemma => kernel_rfl) (Fr.refl _ _) ?_
      simp only [inOrder, List.map_cons, List.map_nil, List.getD_cons_zero, List.getD_cons_succ]
      refine wpG_val (.pointer (some ⟨ib, 0, none⟩)) (by first | rfl | go_simp) (fun X hX => by have cc := (b0d.fr hX n2).cell; go_simp) ?_
      simp only [Act.put, List.setIfInBounds_toArray, List.set_cons_zero, List.set_cons_succ]
      iterate 2
        refine wpG_pure fun K hK => ?_
        go_simp
        refine hK _ ?_
        clear hK K
      refine wpG_val (.pointer (some ⟨p.nb, 0, none⟩)) (by first | rfl | go_simp) (fun X hX => by have cc := (bid.fr hX n1).cell; go_simp) ?_
      simp only [Act.put, List.setIfInBounds_toArray, List.set_cons_zero, List.set_cons_succ]
      iterate 1
        refine wpG_pure fun K hK => ?_
        go_simp
        refine hK _ ?_
        clear hK K
      refine wpG_val (.int .i64 (y : Int)) (by first | rfl | go_simp) (fun X hX => by have cc := (bpd.fr hX n3).cell; go_simp) ?_
      simp only [Act.put, List.setIfInBounds_toArray, List.set_cons_zero, List.set_cons_succ]
      refine wpG_one fun K hK => ?_
      go_simp
      refine (kM).mono ?_
      rintro e A3 ⟨g', c', hnv', rfl, hC', hf3⟩
      have hg' : g' = g := by
        rw [hnv] at hnv'
        have := congrArg Value.ownBlock hnv'
        simpa [Value.ownBlock] using this.symm
      subst hg'
      refine hK _ _ (hf3) ?_
      clear hK K
      refine wpG_end ?_
      have hi3 : ImgW A3 ib p R1 := by
        rw [hx.out]
        exact hid.setN hC' hf3 (fun k hk => by rw [List.mem_singleton.1 hk, hnv]; rfl)
      have hfin := fin.out A3 hi3 ((hd.weak).trans' (hf3.mono (fun y hy _ => by rw [List.mem_singleton.1 hy]; exact hgo)))
      clear kM hC' hf3 hid bid b0d bpd fin c0 cp
      gi_wp2
      exact hfin
    · have hM : moreI R (a, b, o) = R := by unfold moreI; rw [if_neg ha]
      rw [hM] at hx
      have ha' : (a == 1) = false := by simpa using ha
      have hfin := fin.out A2 (by rw [hx.out]; exact hi) (Fr.refl _ _)
      clear fin ha
      gi_wp2
      exact hfin
  case done =>
    rintro D f W d1 d2 ⟨rfl, hi, hs⟩ hK
    rw [hend.out] at hi
    go_wp2
    refine leave_mark_end (v := .tuple #[]) rfl hK (fun W' _ => results_none rfl _ _ _) fun W' hF => ⟨rfl, hi.fr hF (fun y hy => by rw [List.mem_singleton.1 hy]; exact h2.new d1), ((hF2.weak (L := ownC p w)).trans hs (fun y hy _ => hC y hy)).trans1 hF (by omega)⟩
end
end Go.Proofs.YtilhbjjjmdnjmaaGreat
