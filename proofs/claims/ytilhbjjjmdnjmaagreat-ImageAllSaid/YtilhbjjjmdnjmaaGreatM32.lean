/-
  Package image: Snap.
-/
import Derived.Test.YtilhbjjjmdnjmaaGreatM29
import Derived.Test.YtilhbjjjmdnjmaaGreatM30
import Derived.Test.YtilhbjjjmdnjmaaGreatM31
import Derived.Test.YtilhbjjjmdnjmaaGreatM21
namespace Go.Proofs.YtilhbjjjmdnjmaaGreat
open Go.RowKit Go.Maps
attribute [local go_sem] mapAt_alloc mapAt_setCell mapAt_drew mapAt_drewN

def snapE (M : Img) (nm : By) : Int × Img := if okName nm = false then (1, M) else if (findI M.s nm).isSome = true ∨ 8 ≤ M.s.length then (123, M) else (0, snapI M nm)
theorem snL_snoc {s : List (By × List Slt)} {sp : List (Nat × Nat)} (hl : sp.length = s.length) (q : By × List Slt) (x : Nat × Nat) : snL (s ++ [q]) (sp ++ [x]) = snL s sp ++ [(q.1, x.1)] := by
  unfold snL
  rw [List.zipWith_append (by rw [hl])]
  rfl
theorem getD_snocQ {s : List (By × List Slt)} (q : By × List Slt) (i : Nat) (hi : i < s.length + 1) : (s ++ [q]).getD i zQ = if i < s.length then s.getD i zQ else q := by
  simp only [List.getD_eq_getElem?_getD, List.getElem?_append]
  split
  · rfl
  · rw [show i - s.length = 0 by omega]
    rfl
theorem getD_snocP {s : List (Nat × Nat)} (q : Nat × Nat) (i : Nat) (hi : i < s.length + 1) : (s ++ [q]).getD i (0, 0) = if i < s.length then s.getD i (0, 0) else q := by
  simp only [List.getD_eq_getElem?_getD, List.getElem?_append]
  split
  · rfl
  · rw [show i - s.length = 0 by omega]
    rfl
section
variable {ib : Nat} {p : Pl} {M : Img}
/-- one more snapshot in memory -/
theorem ImgW.snapS {w w3 w' : World} (h : ImgW w ib p M) {nm : By} {l : List Slt} {v : Value} {tb mb : Nat} (hf3 : Fr [] w w3) (hT : TabW w3 tb mb l) (ht : w.heap.size ≤ tb) (hm : w.heap.size ≤ mb)
    (hv : w'.ownsRow 0 113 2 v (M.s.length + 1) ((snL M.s p.sp).flatMap snC ++ snC (nm, tb))) (hvl : ∀ k, v.ownBlock = some k → p.r k = some 6 ∨ w3.heap.size ≤ k)
    (hB : Blk w' ib [.int .i64 (M.B : Int), .pointer (some ⟨p.tb, 0, none⟩), .pointer (some ⟨p.nb, 0, none⟩), .map (some p.db), v] 74) {L : List Nat} (hf : Fr L w3 w') (hL : ∀ k ∈ L, k = ib ∨ p.r k = some 6 ∨ w3.heap.size ≤ k) :
    ∃ p', ImgW w' ib p' { M with s := M.s ++ [(nm, l)] } ∧ Step w p w' p' := by
  have h3 := h.fr0 hf3
  have hlt := hT.lt
  have hz := hf3.size
  have hz' := hf.size
  have rt := h.new ht
  have rm := h.new hm
  have nL : ∀ k, k < w3.heap.size → p.r k ≠ some 6 → k ≠ ib → k ∉ L := fun k h1 h2 h3 hk => by
    rcases hL k hk with h | h | h
    · exact h3 h
    · exact h2 h
    · omega
  have hri := h.ri
  have hT' : TabW w' tb mb l := hT.fr hf (nL _ hlt.1 (by rw [rt]; simp) (fun e => by rw [e, hri] at rt; cases rt)) (nL _ hlt.2 (by rw [rm]; simp) (fun e => by rw [e, hri] at rm; cases rm))
  have hsl : (p.sp ++ [(tb, mb)]).length = (M.s ++ [(nm, l)]).length := by simp [h.snl]
  have hst : ∀ i, i < M.s.length → TabW w' (p.sp.getD i (0, 0)).1 (p.sp.getD i (0, 0)).2 (M.s.getD i zQ).2 := fun i hi => by
    obtain ⟨r1, r2⟩ := h.rst i hi
    exact (h3.snt i hi).fr hf (nL _ (h3.snt i hi).lt.1 (by rw [r1]; simp) (fun e => by rw [e, hri] at r1; cases r1)) (nL _ (h3.snt i hi).lt.2 (by rw [r2]; simp) (fun e => by rw [e, hri] at r2; cases r2))
  have hfw : Fr L w w' := (hf3.weak).trans' hf
  have hput := h.putS (sv := v) (sp := p.sp ++ [(tb, mb)]) (s' := M.s ++ [(nm, l)]) (N := fun k => k == tb || k == mb) (L := L)
    (by rw [snL_snoc h.snl, List.flatMap_append, List.length_append]; simpa using hv) hsl
    (fun i hi => by
      have hi' : i < M.s.length + 1 := by simpa using hi
      rw [getD_snocQ _ i hi', getD_snocP _ i (by rw [h.snl]; exact hi'), h.snl]
      by_cases e : i < M.s.length
      · rw [if_pos e, if_pos e]; exact hst i e
      · rw [if_neg e, if_neg e]; exact hT')
    (fun k hk => by
      have : k = tb ∨ k = mb := by simpa using hk
      rcases this with rfl | rfl
      · exact ⟨.inl rt, by omega⟩
      · exact ⟨.inl rm, by omega⟩)
    (fun k hk => by
      have hk' : (k == tb || k == mb) = false := by
        rcases hvl k hk with h1 | h1
        · have e1 : k ≠ tb := fun e => by rw [e, rt] at h1; cases h1
          have e2 : k ≠ mb := fun e => by rw [e, rm] at h1; cases h1
          simp [e1, e2]
        · have e1 : k ≠ tb := by omega
          have e2 : k ≠ mb := by omega
          simp [e1, e2]
      refine ⟨?_, hk'⟩
      rcases hvl k hk with h1 | h1
      · exact .inr h1
      · exact .inl (h.new (by omega)))
    (fun i hi => by
      have hi' : i < M.s.length + 1 := by simpa using hi
      rw [getD_snocP _ i (by rw [h.snl]; exact hi'), h.snl]
      by_cases e : i < M.s.length
      · rw [if_pos e]; exact ⟨.inr (h.rst i e).1, .inr (h.rst i e).2⟩
      · rw [if_neg e]; exact ⟨.inl (by simp), .inl (by simp)⟩)
    hB hfw (fun k hk => by
      rcases hL k hk with h1 | h1 | h1
      · exact .inl h1
      · exact .inr (.inl h1)
      · exact .inr (.inr (h.new (by omega))))
  refine ⟨_, hput, hfw.mono (fun k hk hl => mem_own.2 ⟨hl, ?_⟩), fun k hk => ?_⟩
  · rcases hL k hk with h1 | h1 | h1
    · rw [h1, hri]; rfl
    · rw [h1]; rfl
    · omega
  · by_cases e1 : v.ownBlock = some k
    · rcases hvl k e1 with h1 | h1
      · exact .inl (by rw [h1]; rfl)
      · exact .inr (by omega)
    · by_cases e2 : (k == tb || k == mb) = true
      · have : k = tb ∨ k = mb := by simpa using e2
        rcases this with rfl | rfl
        · exact .inr ht
        · exact .inr hm
      · exact .inl (by simpa only [Pl.putS, if_neg e1, if_neg e2] using hk)
set_option maxRecDepth 100000 in
set_option maxHeartbeats 1600000 in
theorem iSnap_calls (nm : By) (w : World) (h : ImgW w ib p M) (hok : OkI M) : Calls Tryz.prog 20 #[.pointer (some ⟨ib, 0, none⟩), strL nm] w (resPost w ib p (snapE M nm)) := by
  have kR := nRight_calls nm w
  have kF := fun W (hW : ImgW W ib p M) => iFind_calls nm W hW hok.few
  unfold findPost at kF
  unfold resPost
  cases hn : okName nm with
  | false =>
    have hE : snapE M nm = (1, M) := by unfold snapE; rw [if_pos hn]
    rw [hE]
    rw [hn] at kR
    clear hE kF hn
    go_enter Tryz.func20, Tryz.ntmps20
    go_wp2_with fail
    refine kR.mono ?_
    rintro e w1 ⟨rfl, hf1⟩
    go_wp2
    go_ret
    exact ⟨p, rfl, h.fr0 hf1, Step.fr0 hf1⟩
  | true =>
    rw [hn] at kR
    obtain ⟨ns, hns⟩ : ∃ ns, Hid (M.s.length = ns) := ⟨_, hidIt rfl⟩
    obtain ⟨a, cap, hsv, _⟩ := Sl.of_owns h.sn
    rw [hns.out] at hsv
    cases hfi : findI M.s nm with
    | some k =>
      have hz : findZ M.s nm = (k : Int) := by unfold findZ; rw [hfi]
      have hE : snapE M nm = (123, M) := by unfold snapE; rw [if_neg (by rw [hn]; simp), if_pos (.inl (by rw [hfi]; rfl))]
      rw [hE]
      rw [hz] at kF
      have hk0 : (0 : Int) ≤ (k : Int) := by omega
      clear hE hz hfi hn
      go_enter Tryz.func20, Tryz.ntmps20
      go_wp2_with fail
      refine kR.mono ?_
      rintro e w1 ⟨rfl, hf1⟩
      have h1 := h.fr0 hf1
      go_wp2_with fail
      refine (kF w1 h1).mono ?_
      rintro e w2 ⟨rfl, hf2⟩
      have h2 := h1.fr0 hf2
      clear kR kF
      go_wp2
      go_ret
      exact ⟨p, rfl, h2, Step.fr0 (hf1.trans0 hf2)⟩
    | none =>
      have hz : findZ M.s nm = -1 := by unfold findZ; rw [hfi]
      rw [hz] at kF
      by_cases h8 : 8 ≤ M.s.length
      · have hE : snapE M nm = (123, M) := by unfold snapE; rw [if_neg (by rw [hn]; simp), if_pos (.inr h8)]
        rw [hE]
        rw [hns.out] at h8
        clear hE hz hfi hn
        go_enter Tryz.func20, Tryz.ntmps20
        go_wp2_with fail
        refine kR.mono ?_
        rintro e w1 ⟨rfl, hf1⟩
        have h1 := h.fr0 hf1
        go_wp2_with fail
        refine (kF w1 h1).mono ?_
        rintro e w2 ⟨rfl, hf2⟩
        have h2 := h1.fr0 hf2
        have b2 := h2.blk.cell
        rw [hsv] at b2
        clear kR kF
        go_wp2
        go_ret
        exact ⟨p, rfl, h2, Step.fr0 (hf1.trans0 hf2)⟩
      · have hE : snapE M nm = (0, snapI M nm) := by unfold snapE; rw [if_neg (by rw [hn]; simp), if_neg (by rw [hfi]; simpa using h8)]
        have hno := findI_none hfi
        have hJ := hidIt (snapJ hok hn hno (by omega))
        have hRo : Hid (ownsI { moreL M (eachS M.t) with s := M.s ++ [(nm, M.t)] } = snapI M nm) := hidIt rfl
        rw [hE]
        have hmk := moreL_keep (eachS M.t) M
        have kM := fun W (hW : ImgW W ib p M) => iMore_calls p.tb p.mb M.t W hW hW.tab hok.len hok.right (fun s hs h1 => hok.toOkJ.live hs h1) (fun j => by have := hok.toOkJ.small j; have := hok.one j; omega) h.notT.1 h.notT.2
        have Hmt := hidIt hmk.2.1
        have Hms := hidIt hmk.2.2.1
        rw [hns.out] at h8
        have Hns := hns
        clear hE hz hfi hn hno hmk
        generalize snapI M nm = R at *
        generalize moreL M (eachS M.t) = M1 at *
        rw [← Hmt.out, ← Hms.out] at hJ hRo
        go_enter Tryz.func20, Tryz.ntmps20
        go_wp2_with fail
        refine kR.mono ?_
        rintro e w1 ⟨rfl, hf1⟩
        have h1 := h.fr0 hf1
        go_wp2_with fail
        refine (kF w1 h1).mono ?_
        rintro e w2 ⟨rfl, hf2⟩
        have h2 := h1.fr0 hf2
        have b2 := h2.blk.cell
        rw [hsv] at b2
        have kM2 := kM w2 h2
        have hst2 : Step w p w2 p := Step.fr0 (hf1.trans0 hf2)
        clear kR kF kM hf1 hf2 h1
        have h8' : ¬ (8 : Int) ≤ (ns : Int) := by omega
        go_wp2_with fail
        refine kM2.mono ?_
        rintro e w3 ⟨rfl, h3, hf3⟩
        have hst3 := hst2.trans (Step.ofC hf3)
        clear kM2 b2 h2 hf3 hst2
        have hd : Fr [] w3 w3.drew := (Fr.refl _ _).drew
        have hid := h3.fr0 hd
        have bd := hid.blk
        rw [hsv] at bd
        have hr6 := h3.rs
        rw [hsv] at hr6
        have nsv : ib ∉ (Value.slice a ns cap).ownBlock.toList := fun hm => by have := hr6 ib (Option.mem_toList.1 hm); rw [h3.ri] at this; cases this
        have kC := tCopy_calls p.tb p.mb M1.t w3.drew hid.tab
        have hsn := hid.sn
        rw [Hms.out, hns.out, hsv] at hsn
        obtain ⟨S, hS⟩ : ∃ S, Hid (Value.string S = strL nm) := ⟨⟨nm.toArray⟩, hidIt rfl⟩
        rw [← hS.out]
        clear h8'
        go_wp2_with fail
        refine wp_region_Z 16 (Fr (Value.slice a ns cap).ownBlock.toList w3.drew) [(true, 0), (true, 1), (true, 2), (true, 3), (true, 4), (true, 5), (true, 6), (true, 7), (true, 8), (true, 9), (false, 10), (true, 11), (false, 12), (false, 13), (false, 14), (false, 15)] (by as_aux_lemma => kernel_rfl) (by as_aux_lemma => kernel_rfl) (Fr.refl _ _) ?_
        simp only [inOrder, List.map_cons, List.map_nil, List.getD_cons_zero, List.getD_cons_succ]
        iterate 4
          refine wpG_pure fun K hK => ?_
          go_simp
          refine hK _ ?_
          clear hK K
        refine wpG_val (.slice a ns cap) (by first | rfl | go_simp) (fun X hX => by have cc := (bd.fr hX nsv).cell; go_simp) ?_
        simp only [Act.put, List.setIfInBounds_toArray, List.set_cons_zero, List.set_cons_succ]
        iterate 4
          refine wpG_pure fun K hK => ?_
          go_simp
          refine hK _ ?_
          clear hK K
        refine wpG_val (.pointer (some ⟨p.tb, 0, none⟩)) (by first | rfl | go_simp) (fun X hX => by have cc := (bd.fr hX nsv).cell; go_simp) ?_
        simp only [Act.put, List.setIfInBounds_toArray, List.set_cons_zero, List.set_cons_succ]
        refine wpG_one fun K hK => ?_
        go_simp
        refine (kC).mono ?_
        rintro e w4 ⟨tb', mb', rfl, ht1, hm1, hT4, hf4⟩
        refine hK _ _ (hf4.weak) ?_
        clear hK K
        iterate 1
          refine wpG_pure fun K hK => ?_
          go_simp
          refine hK _ ?_
          clear hK K
        refine wpG_one fun K hK => ?_
        go_simp
        have hfa := hf4.alloc (.cells #[.string S, .pointer (some ⟨tb', 0, none⟩)] 113)
        refine hK _ _ hfa.weak ?_
        clear hK K
        refine wpG_list rfl (fun _ _ h => h) fun K hK => ?_
        refine wpList_append1 72 113 (.agg #[.string ⟨#[]⟩, .pointer none]) 2 24 Tryz.underlying72 infoSn rfl (by decide) (by decide) rfl _ _ rfl 0 (.slice a ns cap) ns ((snL M.s p.sp).flatMap snC) rfl (owns_fr hsn hfa (fun _ _ h => by cases h)) [.string S, .pointer (some ⟨tb', 0, none⟩)] rfl (by intro u hu; simp at hu; rcases hu with rfl | rfl <;> rfl) w4.heap.size rfl (Blk.new w4 _ 113) (by omega) (by omega) ?_
        intro v' w5 hown hgrow hloc
        have hF5 : Fr (Value.slice a ns cap).ownBlock.toList w3.drew w5 := hfa.weak.trans' (Fr.of_grown hgrow)
        refine hK _ (fun _ h => h) _ _ hF5 ?_
        clear hK K
        have hv6 : ∀ k, v'.ownBlock = some k → p.r k = some 6 ∨ w4.heap.size ≤ k := fun k hk => by
          rcases hloc with e | e
          · rw [e] at hk; exact .inl (hr6 k hk)
          · rw [e] at hk; cases hk; exact .inr (by simp)
        have hgf : Fr (Value.slice a ns cap).ownBlock.toList w4 w5 := ((Fr.refl [] w4).alloc _).weak.trans' (Fr.of_grown hgrow)
        have b5 := (hid.fr0 hf4).blk
        rw [hsv] at b5
        have b5 := b5.fr hgf nsv
        have c5 := b5.cell
        have f5 := b5.frozen
        have l5 := b5.lt
        obtain ⟨a5, q5, rfl, _⟩ := Sl.of_owns hown
        have hF5' := hF5
        clear hgrow hloc hF5 hfa kC hsn
        iterate 2
          refine wpG_one fun K hK => ?_
          go_simp
          refine hK _ _ hF5' ?_
          clear hK K
        refine wpG_last fun K hK => ?_
        go_simp
        refine hK _ _ ?_
        clear hK K
        have hs6 := Fr.setCell (p := ⟨ib, 4, none⟩) (Fr.refl [ib] w5) (.inl (by simp)) (.slice a5 (ns + 1) q5)
        have b6 := b5.setCell 4 (.slice a5 (ns + 1) q5)
        have n5 : ∀ k, (Value.slice a5 (ns + 1) q5).ownBlock = some k → k ≠ ib := fun k hk e => by
          rcases hv6 k hk with h1 | h1
          · rw [e, h3.ri] at h1; cases h1
          · have := (hid.fr0 hf4).blk.lt; omega
        have hf6 : Fr (ib :: (Value.slice a ns cap).ownBlock.toList) w4 (w5.setCell ⟨ib, 4, none⟩ (.slice a5 (ns + 1) q5)) := (hgf.mono (fun y hy _ => List.mem_cons_of_mem _ hy)).trans' (hs6.mono (fun y hy _ => by rw [List.mem_singleton.1 hy]; exact List.mem_cons_self))
        rw [hS.out] at hown
        have hown6 := owns_fr hown hs6 (fun k hk hm => n5 k hk (List.mem_singleton.1 hm))
        generalize w5.setCell ⟨ib, 4, none⟩ (.slice a5 (ns + 1) q5) = w6 at *
        obtain ⟨p', h6, hst6⟩ := hid.snapS (nm := nm) (tb := tb') (mb := mb') (v := .slice a5 (ns + 1) q5) (w' := w6) hf4 hT4 ht1 hm1 (by rw [Hms.out, hns.out]; exact hown6) hv6 b6 hf6 (fun k hk => by
          rcases List.mem_cons.1 hk with h1 | h1
          · exact .inl h1
          · exact .inr (.inl (hr6 k (Option.mem_toList.1 h1))))
        have kO := iOwns_calls _ h6 hJ.out
        rw [hRo.out] at kO
        have hst7 := (hst3.trans (Step.fr0 hd)).trans hst6
        clear hown hown6 b6 b5 c5 f5 l5 hgf hs6 hf6 hid h3 bd
        go_wp2_with fail
        refine kO.mono ?_
        rintro e w7 ⟨rfl, h7, hst8⟩
        have hst9 := hst7.trans hst8
        clear kO h6
        go_wp2
        go_ret
        exact ⟨p', rfl, h7, hst9⟩
end
end Go.Proofs.YtilhbjjjmdnjmaaGreat

namespace Go.Proofs.YtilhbjjjmdnjmaaGreat
open Go.RowKit Go.Maps
attribute [local go_sem] mapAt_alloc mapAt_setCell mapAt_drew mapAt_drewN

def dropR (M : Img) (nm : By) : Int × Img := match findI M.s nm with | none => (122, M) | some k => (0, dropI M k)
theorem snL_erase {s : List (By × List Slt)} {sp : List (Nat × Nat)} (hl : sp.length = s.length) (k : Nat) : snL (s.eraseIdx k) (sp.eraseIdx k) = (snL s sp).eraseIdx k := by
  unfold snL
  rw [List.eraseIdx_eq_take_drop_succ, List.eraseIdx_eq_take_drop_succ, List.eraseIdx_eq_take_drop_succ, List.zipWith_append (by simp [hl]), List.take_zipWith, List.drop_zipWith]
theorem getD_eraseQ (s : List (By × List Slt)) (k i : Nat) : (s.eraseIdx k).getD i zQ = if i < k then s.getD i zQ else s.getD (i + 1) zQ := by
  simp only [List.getD_eq_getElem?_getD, List.getElem?_eraseIdx]
  split <;> rfl
theorem getD_eraseP (s : List (Nat × Nat)) (k i : Nat) : (s.eraseIdx k).getD i (0, 0) = if i < k then s.getD i (0, 0) else s.getD (i + 1) (0, 0) := by
  simp only [List.getD_eq_getElem?_getD, List.getElem?_eraseIdx]
  split <;> rfl
section
variable {ib : Nat} {p : Pl} {M : Img}
/-- one snapshot less in memory -/
theorem ImgW.dropS {w w' : World} (h : ImgW w ib p M) {k : Nat} (hk : k < M.s.length) {v : Value} {L : List Nat}
    (hv : w'.ownsRow 0 113 2 v (M.s.length - 1) (((snL M.s p.sp).eraseIdx k).flatMap snC)) (hvl : ∀ y, v.ownBlock = some y → w.heap.size ≤ y)
    (hB : Blk w' ib [.int .i64 (M.B : Int), .pointer (some ⟨p.tb, 0, none⟩), .pointer (some ⟨p.nb, 0, none⟩), .map (some p.db), v] 74) (hf : Fr L w w') (hL : ∀ y ∈ L, y = ib ∨ w.heap.size ≤ y) :
    ∃ p', ImgW w' ib p' { M with s := M.s.eraseIdx k } ∧ Step w p w' p' := by
  have hri := h.ri
  have hst : ∀ i, i < M.s.length → TabW w' (p.sp.getD i (0, 0)).1 (p.sp.getD i (0, 0)).2 (M.s.getD i zQ).2 := fun i hi => by
    obtain ⟨r1, r2⟩ := h.rst i hi
    have hlt := (h.snt i hi).lt
    refine (h.snt i hi).fr hf (fun hm => ?_) (fun hm => ?_)
    · rcases hL _ hm with h1 | h1
      · rw [h1, hri] at r1; cases r1
      · omega
    · rcases hL _ hm with h1 | h1
      · rw [h1, hri] at r2; cases r2
      · omega
  have hle : (M.s.eraseIdx k).length = M.s.length - 1 := by rw [List.length_eraseIdx, if_pos hk]
  have hput := h.putS (sv := v) (sp := p.sp.eraseIdx k) (s' := M.s.eraseIdx k) (N := fun _ => false) (L := L)
    (by rw [snL_erase h.snl, hle]; exact hv) (by rw [List.length_eraseIdx, hle, if_pos (by rw [h.snl]; exact hk), h.snl])
    (fun i hi => by
      rw [hle] at hi
      rw [getD_eraseQ, getD_eraseP]
      split
      · exact hst i (by omega)
      · exact hst (i + 1) (by omega))
    (fun y hy => by cases hy)
    (fun y hy => ⟨.inl (h.new (hvl y hy)), rfl⟩)
    (fun i hi => by
      rw [hle] at hi
      rw [getD_eraseP]
      split
      · exact ⟨.inr (h.rst i (by omega)).1, .inr (h.rst i (by omega)).2⟩
      · exact ⟨.inr (h.rst (i + 1) (by omega)).1, .inr (h.rst (i + 1) (by omega)).2⟩)
    hB hf (fun y hy => (hL y hy).imp id fun h1 => .inr (h.new h1))
  refine ⟨_, hput, hf.mono (fun y hy hl => mem_own.2 ⟨hl, ?_⟩), fun y hy => ?_⟩
  · rcases hL y hy with h1 | h1
    · rw [h1, hri]; rfl
    · omega
  · by_cases e1 : v.ownBlock = some y
    · exact .inr (hvl y e1)
    · exact .inl (by simpa only [Pl.putS, if_neg e1, Bool.false_eq_true, if_false] using hy)
set_option maxRecDepth 100000 in
set_option maxHeartbeats 1600000 in
theorem iDrop_calls (nm : By) (w : World) (h : ImgW w ib p M) (hok : OkI M) : Calls Tryz.prog 22 #[.pointer (some ⟨ib, 0, none⟩), strL nm] w (resPost w ib p (dropR M nm)) := by
  have kF := iFind_calls nm w h hok.few
  unfold findPost at kF
  unfold resPost
  cases hk : findI M.s nm with
  | none =>
    have hz : findZ M.s nm = -1 := by unfold findZ; rw [hk]
    have hE : dropR M nm = (122, M) := by unfold dropR; rw [hk]
    rw [hz] at kF
    rw [hE]
    clear hz hE hk
    go_enter Tryz.func22, Tryz.ntmps22
    go_wp2_with fail
    refine kF.mono ?_
    rintro e w1 ⟨rfl, hf1⟩
    go_wp2
    go_ret
    exact ⟨p, rfl, h.fr0 hf1, Step.fr0 hf1⟩
  | some k =>
    obtain ⟨hks, _⟩ := findI_some hk
    have hz : findZ M.s nm = (k : Int) := by unfold findZ; rw [hk]
    have hE : dropR M nm = (0, dropI M k) := by unfold dropR; rw [hk]
    rw [hz] at kF
    rw [hE]
    have hJ := hidIt (dropJ hok hks)
    have hRo : Hid (ownsI { lessL M (eachS (M.s.getD k zQ).2) with s := M.s.eraseIdx k } = dropI M k) := hidIt rfl
    have hmem := getD_memQ hks
    have hS := h.notS hks
    have kA := fun W (hW : ImgW W ib p M) => iAll_calls (p.sp.getD k (0, 0)).1 (p.sp.getD k (0, 0)).2 (M.s.getD k zQ).2 W hW (hW.snt k hks) (hok.lens _ hmem) (hok.rights _ hmem) (cnt_le_snap hok hmem) hS.1 hS.2
    have hks3 := lessL_keep (eachS (M.s.getD k zQ).2) M
    have HS1 : Hid ((lessL M (eachS (M.s.getD k zQ).2)).s = M.s) := hidIt hks3.2.2.1
    have hfew := hok.few
    have hks' := hidIt hks
    clear hz hE hk hmem hks3 hS hok
    generalize dropI M k = R at *
    generalize lessL M (eachS (M.s.getD k zQ).2) = M1 at *
    go_enter Tryz.func22, Tryz.ntmps22
    go_wp2_with fail
    refine kF.mono ?_
    rintro e w1 ⟨rfl, hf1⟩
    have h1 := h.fr0 hf1
    have hst1 : Step w p w1 p := Step.fr0 hf1
    have b1 := h1.blk.cell
    obtain ⟨ts, hts⟩ : ∃ ts, Hid ((p.sp.getD k (0, 0)).1 = ts) := ⟨_, hidIt rfl⟩
    obtain ⟨g, cap, hsv, hg, _, c0, c1⟩ := h1.snap_at hks'.out
    rw [hsv] at b1
    have kA1 := kA w1 h1
    rw [hts.out] at kA1 c1
    have hsvH := hidIt hsv
    clear kF kA hsv
    obtain ⟨ns, hns⟩ : ∃ ns, Hid (M.s.length = ns) := ⟨_, hidIt rfl⟩
    rw [hns.out] at b1 hks hks' hfew hsvH
    go_wp2_with fail
    refine kA1.mono ?_
    rintro e w2 ⟨rfl, h2, hf2⟩
    have hst2 := hst1.trans (Step.ofC hf2)
    have b2 := h2.blk.cell
    have hsl2 : SlF snC w2 p.sv (snL M1.s p.sp) := SlF.of_owns (by rw [snL_len h2.snl]; exact h2.sn)
    have kC := CloneS_calls p.sv (snL M1.s p.sp) w2 hsl2 (by rw [snL_len h2.snl, HS1.out, hns.out]; omega)
    have hl2 := hidIt (snL_len h2.snl)
    rw [hl2.out, HS1.out, hns.out] at kC
    rw [hsvH.out] at b2 kC
    clear b1 c0 c1 kA1 hg hf2 hf1 hst1 hsl2
    go_wp2_with fail
    refine kC.mono ?_
    rintro e w3 ⟨v, rfl, hown3, hf3⟩
    obtain ⟨g3, c3, rfl, hg3, hc3⟩ := owns_succ hown3 (by omega)
    have hlen3 : (snL M.s p.sp).length = ns := by rw [← HS1.out, hl2.out, HS1.out, hns.out]
    have kD := DeleteS_calls w2.heap.size g3 c3 k (snL M.s p.sp) w3 (by rw [hlen3]; exact hown3) (by rw [hlen3]; exact hks) (by rw [hlen3]; omega)
    rw [hlen3] at kD
    unfold delPost at kD
    have hw1 : IntKind.i64.wrap ((k : Int) + 1) = (k : Int) + 1 := IntWalk.i64_in _ (by omega)
    clear kC b2 hlen3 hown3
    go_wp2_with fail
    refine kD.mono ?_
    rintro e w4 ⟨rfl, hown4, hf4⟩
    have h3 := h2.fr0 hf3
    have hgn : p.r g3 = none := h2.new hg3
    have nib : ib ∉ [g3] := fun hm => by rw [← List.mem_singleton.1 hm, h2.ri] at hgn; cases hgn
    have b4 := h3.blk.fr hf4 nib
    have c4 := b4.cell
    have f4 := b4.frozen
    have l4 := b4.lt
    clear kD
    go_wp2_with fail
    have hs5 := Fr.setCell (p := ⟨ib, 4, none⟩) (Fr.refl [ib] w4) (.inl (by simp)) (.slice (some ⟨g3, 0, none⟩) (ns - 1) c3)
    have b5 := b4.setCell 4 (.slice (some ⟨g3, 0, none⟩) (ns - 1) c3)
    have hown5 := owns_base (base' := 0) (owns_fr hown4 hs5 (fun y hy hm => by
      have e : g3 = y := by simpa [Value.ownBlock] using hy
      exact nib (by rw [← List.mem_singleton.1 hm, e]; simp))) (Nat.zero_le _)
    have hf5 : Fr [ib, g3] w2 (w4.setCell ⟨ib, 4, none⟩ (.slice (some ⟨g3, 0, none⟩) (ns - 1) c3)) := ((hf3.weak).trans' (hf4.mono (fun y hy _ => by rw [List.mem_singleton.1 hy]; simp))).trans' (hs5.mono (fun y hy _ => by rw [List.mem_singleton.1 hy]; simp))
    generalize w4.setCell ⟨ib, 4, none⟩ (.slice (some ⟨g3, 0, none⟩) (ns - 1) c3) = w5 at *
    obtain ⟨p', h6, hst6⟩ := h2.dropS (k := k) (v := .slice (some ⟨g3, 0, none⟩) (ns - 1) c3) (w' := w5) (by rw [HS1.out, hns.out]; exact hks) (by rw [HS1.out, hns.out]; exact hown5) (fun y hy => by
      have e : g3 = y := by simpa [Value.ownBlock] using hy
      rw [← e]; exact hg3) b5 hf5 (fun y hy => by
      rcases List.mem_cons.1 hy with e | e
      · exact .inl e
      · rw [List.mem_singleton.1 e]; exact .inr hg3)
    rw [HS1.out] at h6
    have kO := iOwns_calls _ h6 hJ.out
    rw [hRo.out] at kO
    have hst7 := hst2.trans hst6
    clear hown4 hown5 b5 b4 c4 f4 l4 hf5 hs5 h3 h2 hf3 hf4
    refine kO.mono ?_
    rintro e w7 ⟨rfl, h7, hst8⟩
    have hst9 := hst7.trans hst8
    clear kO h6
    go_wp2
    go_ret
    exact ⟨p', rfl, h7, hst9⟩
end
end Go.Proofs.YtilhbjjjmdnjmaaGreat
