/-
  Package image: owns.
-/
import Derived.Test.YtilhbjjjmdnjmaaGreatM22
import Derived.Test.YtilhbjjjmdnjmaaGreatM13
import Derived.Test.YtilhbjjjmdnjmaaGreatM28
import Derived.Test.YtilhbjjjmdnjmaaGreatM25
namespace Go.Proofs.YtilhbjjjmdnjmaaGreat
open Go.RowKit Go.Maps
attribute [local go_sem] mapAt_alloc mapAt_setCell mapAt_drew mapAt_drewN

def ownT (M : Img) (k : Nat) : List Slt := (M.t.take k).map (ownI M) ++ M.t.drop k
theorem ownT_len (M : Img) {k : Nat} : (ownT M k).length = M.t.length := by simp [ownT]; omega
theorem ownT_zero (M : Img) : ownT M 0 = M.t := by simp [ownT]
theorem ownT_end (M : Img) : ownT M M.t.length = M.t.map (ownI M) := by simp [ownT]
theorem ownT_get (M : Img) {k : Nat} (hk : k < M.t.length) : (ownT M k).getD k zS = M.t.getD k zS := by
  unfold ownT
  simp only [List.getD_eq_getElem?_getD]
  rw [List.getElem?_append_right (by simp; omega)]
  simp only [List.length_map, List.length_take, List.getElem?_drop]
  congr 2
  omega
theorem ownT_succ (M : Img) {k : Nat} (hk : k < M.t.length) : ownT M (k + 1) = (ownT M k).set k (ownI M (M.t.getD k zS)) := by
  have hg : M.t[k] = M.t.getD k zS := by rw [List.getD_eq_getElem?_getD, List.getElem?_eq_getElem hk]; rfl
  unfold ownT
  rw [List.take_succ_eq_append_getElem hk, List.map_append, List.map_cons, List.map_nil, hg, List.set_append_right _ _ (by simp; omega)]
  have e : M.t.drop k = M.t.getD k zS :: M.t.drop (k + 1) := by rw [← hg]; exact List.drop_eq_getElem_cons hk
  have hl : k - ((M.t.take k).map (ownI M)).length = 0 := by simp; omega
  rw [e, hl, List.set_cons_zero, List.append_assoc]
  rfl
section
variable {ib : Nat} {p : Pl} {M : Img}
set_option maxRecDepth 100000 in
set_option maxHeartbeats 1600000 in
theorem iOwns_calls (w : World) (h : ImgW w ib p M) (hok : OkJ M) : Calls Tryz.prog 52 #[.pointer (some ⟨ib, 0, none⟩)] w (samePost w ib p (ownsI M)) := by
  have kS := iSize_calls w h
  have hlen := hok.len
  have hend : Hid ({ M with t := ownT M M.t.length } = ownsI M) := hidIt (by rw [ownT_end]; rfl)
  unfold samePost
  obtain ⟨R, hR⟩ : ∃ R, R = ownsI M := ⟨_, rfl⟩
  rw [← hR] at hend ⊢
  clear hR
  obtain ⟨n, hn⟩ : ∃ n, n = M.t.length := ⟨_, rfl⟩
  rw [← hn] at kS hend hlen
  have Hn := hidIt hn
  clear hn
  have hT0 : ImgW w ib p { M with t := ownT M 0 } := by rw [ownT_zero]; exact h
  go_enter Tryz.func52, Tryz.ntmps52
  go_wp2_with fail
  refine kS.mono ?_
  rintro e w1 ⟨rfl, rfl⟩
  clear kS
  go_wp2_with fail
  go_loopw [2, 3, 6] (fun _ _ i wr => ∃ k : Nat, k ≤ n ∧ i = .int .i64 (k : Int) ∧ ImgW wr ib p { M with t := ownT M k } ∧ Step w p wr p) (fun _ _ i _ => n - (intOf i).toNat)
  case atStart => exact ⟨0, Nat.zero_le _, rfl, hT0, Step.refl _ _⟩
  case round =>
    clear hT0
    obtain ⟨k, hk, rfl, hi, hs⟩ := hrel
    by_cases hlt : k < n
    · have hktl : k < M.t.length := by rw [← Hn.out]; exact hlt
      have hm := getD_memS hktl
      have hkG := Get_calls p.tb p.mb (ownT M k) k wr hi.tab
      rw [tget_nat, ownT_get M hktl] at hkG
      have hrt := hok.right _ hm
      have hlv := hok.live hm
      have hsu := hidIt (ownT_succ M hktl)
      have hkl : Hid (k < (ownT M k).length) := hidIt (by rw [ownT_len]; exact hktl)
      obtain ⟨T1, hT1⟩ : ∃ T1, Hid (ownT M (k + 1) = T1) := ⟨_, hidIt rfl⟩
      rw [hT1.out] at hsu
      have hTk := hidIt (ownT_get M hktl)
      clear hm hend hktl
      generalize ownT M k = T at *
      generalize M.t.getD k zS = s at *
      obtain ⟨a, b, o⟩ := s
      unfold slotV at hkG
      simp only at hkG
      have b1 := hi.blk.cell
      go_wp2_with fail
      refine hkG.mono ?_
      rintro e w2 ⟨rfl, hf2⟩
      have Bs := Blk.new w2 [.int .i64 a, .int .i64 b, .bool o] 90
      have hF2 := hf2.alloc (.cells #[.int .i64 a, .int .i64 b, .bool o] 90)
      have hi2 := hi.fr0 hF2
      have cs := Bs.cell
      have hnb : p.r w2.heap.size = none := (hi.fr0 hf2).new (Nat.le_refl _)
      by_cases ha : a = 1
      · subst ha
        have hpos := hlv rfl
        obtain ⟨hyb, h512⟩ := host_nat hrt rfl
        simp only at hyb
        have hoR : ownI M (1, b, o) = (1, b, decide (ng M (hst ((1 : Int), b, o)) = 1)) := by unfold ownI; rw [if_pos rfl]
        rw [hoR] at hsu
        have hro : rightS (1, b, decide (ng M (hst ((1 : Int), b, o)) = 1)) = true := by have := own_right (M := M) hrt; rwa [hoR] at this
        have hpos' : hst ((1 : Int), b, o) < M.n.length := ng_lt hpos
        clear hoR hpos hlv hrt
        have hngd : Hid (∀ y, ng M y = M.n.getD y 0) := hidIt (fun _ => rfl)
        generalize hst ((1 : Int), b, o) = y at *
        subst hyb
        have hde : (((ng M y : Nat) : Int) == 1) = decide (ng M y = 1) := by
          by_cases e : ng M y = 1
          · rw [decide_eq_true e, e]; rfl
          · rw [decide_eq_false e]; simp; omega
        generalize hq : decide (ng M y = 1) = q at *
        have hd : Fr [] (w2.alloc (.cells #[.int .i64 1, .int .i64 (y : Int), .bool o] 90)) (w2.alloc (.cells #[.int .i64 1, .int .i64 (y : Int), .bool o] 90)).drew := (Fr.refl _ _).drew
        have hid := hi2.fr0 hd
        have kA := cAt_calls p.nb p.nv M.n _ hid.cnt y hpos'
        have Bd := Bs.fr0 hd
        have bd := hid.blk
        rw [← hngd.out] at kA
        clear hq hngd hkG b1 hi hi2 Bs
        generalize ng M y = ny at *
        have HF := hidIt (hF2.trans0 hd)
        have hsz2 := hidIt hf2.size
        clear hf2 hF2
        go_wp2_with fail
        generalize w2.alloc (.cells #[.int .i64 1, .int .i64 (y : Int), .bool o] 90) = w3 at *
        have cd := Bd.cell
        have fd := Bd.frozen
        have ld := Bd.lt
        refine wp_region_Z 9 (Fr [] w3.drew) [(true, 0), (true, 1), (true, 2), (true, 3), (true, 4), (true, 5), (false, 6), (true, 7), (true, 8)] (by as_aux_lemma => kernel_rfl) (by as_aux_lemma => kernel_rfl) (Fr.refl _ _) ?_
        simp only [inOrder, List.map_cons, List.map_nil, List.getD_cons_zero, List.getD_cons_succ]
        iterate 3
          refine wpG_pure fun K hK => ?_
          go_simp
          refine hK _ ?_
          clear hK K
        refine wpG_val (.pointer (some ⟨p.nb, 0, none⟩)) (by first | rfl | go_simp) (fun X hX => by have cc := (bd.fr0 hX).cell; go_simp) ?_
        simp only [Act.put, List.setIfInBounds_toArray, List.set_cons_zero, List.set_cons_succ]
        iterate 1
          refine wpG_pure fun K hK => ?_
          go_simp
          refine hK _ ?_
          clear hK K
        refine wpG_val (.int .i64 (y : Int)) (by first | rfl | go_simp) (fun X hX => by have cc := (Bd.fr0 hX).cell; go_simp) ?_
        simp only [Act.put, List.setIfInBounds_toArray, List.set_cons_zero, List.set_cons_succ]
        refine wpG_one fun K hK => ?_
        go_simp
        refine (kA).mono ?_
        rintro e w4 ⟨rfl, rfl⟩
        refine hK _ _ (Fr.refl _ _) ?_
        clear hK K
        iterate 2
          refine wpG_pure fun K hK => ?_
          go_simp
          refine hK _ ?_
          clear hK K
        refine wpG_last fun K hK => ?_
        go_simp
        refine hK _ _ ?_
        clear hK K
        have hs5 := Fr.setCell (p := ⟨w2.heap.size, 2, none⟩) (Fr.refl [w2.heap.size] w3.drew) (.inl (by simp)) (.bool q)
        have hi5 := hid.fr hs5 (fun y hy => by rw [List.mem_singleton.1 hy]; exact hnb)
        have B5 := Bd.setCell 2 (.bool q)
        have hF5 : Fr [] wr (w3.drew.setCell ⟨w2.heap.size, 2, none⟩ (.bool q)) := (HF.out).trans hs5 (fun y hy hl => by have := List.mem_singleton.1 hy; have := hsz2.out; omega)
        clear hs5 hid kA Bd bd cd fd ld hd
        have e5 : w3.drew.setCell ⟨w2.heap.size, 2, none⟩ (.bool q) = (w3.setCell ⟨w2.heap.size, 2, none⟩ (.bool q)).drew := rfl
        rw [e5] at hi5 B5 hF5
        clear e5
        generalize (w3.setCell ⟨w2.heap.size, 2, none⟩ (.bool q)).drew = w5 at *
        have hd5 : Fr [] w5 w5.drew := (Fr.refl _ _).drew
        have hi6 := hi5.fr0 hd5
        have b6 := hi6.blk
        have B6 := B5.fr0 hd5
        have kSet := Set_yes p.tb p.mb T k 1 y q w5.drew hi6.tab hkl.out hro
        unfold SetPost at kSet
        simp only at kSet
        rw [← hsu.out] at kSet
        have hmb : p.r p.mb = some 2 := hi6.rm
        have n1 : ib ∉ [p.mb] := fun hm => by have := hi6.ri; rw [List.mem_singleton.1 hm, hmb] at this; cases this
        have n2 : w2.heap.size ∉ [p.mb] := fun hm => by rw [List.mem_singleton.1 hm, hmb] at hnb; cases hnb
        clear hro
        generalize tget T k = old at *
        obtain ⟨oa, ob, oc⟩ := old
        unfold slotV at kSet
        simp only at kSet
        go_wp2_with fail
        refine wp_region_G (Fr [p.mb] w5.drew) [(true, 0), (true, 1), (true, 2), (true, 3), (true, 4), (true, 5), (false, 6)] (by as_aux_lemma => kernel_rfl) (by as_aux_lemma => kernel_rfl) (Fr.refl _ _) ?_
        simp only [inOrder, List.map_cons, List.map_nil, List.getD_cons_zero, List.getD_cons_succ]
        iterate 3
          refine wpG_pure fun K hK => ?_
          go_simp
          refine hK _ ?_
          clear hK K
        refine wpG_val (.pointer (some ⟨p.tb, 0, none⟩)) (by first | rfl | go_simp) (fun X hX => by have cc := (b6.fr hX n1).cell; go_simp) ?_
        simp only [Act.put, List.setIfInBounds_toArray, List.set_cons_zero, List.set_cons_succ]
        iterate 1
          refine wpG_pure fun K hK => ?_
          go_simp
          refine hK _ ?_
          clear hK K
        refine wpG_val (.agg #[.int .i64 1, .int .i64 (y : Int), .bool q]) (by first | rfl | go_simp) (fun X hX => by have cc := (B6.fr hX n2).cell; go_simp) ?_
        simp only [Act.put, List.setIfInBounds_toArray, List.set_cons_zero, List.set_cons_succ]
        refine wpG_one fun K hK => ?_
        go_simp
        refine (kSet).mono ?_
        rintro e w7 ⟨rfl, hT7, hf7⟩
        refine hK _ _ (hf7) ?_
        clear hK K
        refine wpG_end ?_
        have hi7 : ImgW w7 ib p { M with t := T1 } := hi6.setT hT7 hf7 (fun y hy => .inr (List.mem_singleton.1 hy))
        have hst7 : Step w p w7 p := (hs.trans (Step.fr0 (hF5.trans0 hd5))).trans (Step.of_fr hf7 (fun y hy _ => by rw [List.mem_singleton.1 hy, hmb]; rfl))
        clear kSet hT7 hf7 hi6 b6 B6 hd5 hi5 B5 hF5 hs
        go_wp2
        go_roundw
        case rel => exact ⟨k + 1, by omega, by go_num, by rw [hT1.out]; exact hi7, hst7⟩
        case measure => simp [intOf]; omega
      · have hoR : ownI M (a, b, o) = (a, b, o) := by unfold ownI; rw [if_neg ha]
        have ha' : (a == 1) = false := by simpa using ha
        have hT1' : T1 = T := by
          rw [hsu.out, hoR]
          have hk2 := hkl.out
          have e : T[k] = (a, b, o) := by have := hTk.out; rw [List.getD_eq_getElem?_getD, List.getElem?_eq_getElem hk2] at this; simpa using this
          rw [← e]
          exact List.set_getElem_self hk2
        clear hsu hoR hlv hrt hkG b1
        go_wp2
        go_roundw
        case rel => exact ⟨k + 1, by omega, by go_num, by rw [hT1.out, hT1']; exact hi2, hs.trans (Step.fr0 hF2)⟩
        case measure => simp [intOf]; omega
    · have hke : k = n := by omega
      subst hke
      rw [hend.out] at hi
      go_wp2
      exact bodyPost_end (v := .tuple #[]) (results_none rfl _ _ _) rfl ⟨rfl, hi, hs⟩
end
end Go.Proofs.YtilhbjjjmdnjmaaGreat

namespace Go.Proofs.YtilhbjjjmdnjmaaGreat
open Go.RowKit Go.Maps
attribute [local go_sem] cells_str store_str eql_str guard_str

def findI (s : List (By × List Slt)) (nm : By) : Option Nat := s.findIdx? fun q => decide (q.1 = nm)
def findZ (s : List (By × List Slt)) (nm : By) : Int := match findI s nm with | some k => (k : Int) | none => -1
theorem findI_some {s : List (By × List Slt)} {nm : By} {k : Nat} (h : findI s nm = some k) : k < s.length ∧ (s.getD k zQ).1 = nm := by
  obtain ⟨hk, h1, _⟩ := List.findIdx?_eq_some_iff_getElem.1 h
  refine ⟨hk, ?_⟩
  rw [List.getD_eq_getElem?_getD, List.getElem?_eq_getElem hk]
  simpa using h1
theorem findI_none {s : List (By × List Slt)} {nm : By} (h : findI s nm = none) : nm ∉ s.map (·.1) := by
  intro hm
  obtain ⟨q, hq, rfl⟩ := List.mem_map.1 hm
  have := List.findIdx?_eq_none_iff.1 h q hq
  simp at this
theorem findZ_lt {s : List (By × List Slt)} {nm : By} : findZ s nm < 0 ↔ findI s nm = none := by
  unfold findZ
  cases findI s nm with
  | none => simp
  | some k => simp
section
variable {ib : Nat} {p : Pl} {M : Img}
theorem snL_getD {s : List (By × List Slt)} {sp : List (Nat × Nat)} (hl : sp.length = s.length) {i : Nat} (hi : i < s.length) : (snL s sp).getD i ([], 0) = ((s.getD i zQ).1, (sp.getD i (0, 0)).1) := by
  unfold snL
  simp only [List.getD_eq_getElem?_getD, List.getElem?_zipWith, List.getElem?_eq_getElem hi, List.getElem?_eq_getElem (show i < sp.length by omega)]
  rfl
/-- a snapshot in memory -/
theorem ImgW.snap_at {w : World} (h : ImgW w ib p M) {i : Nat} (hi : i < M.s.length) : ∃ g cap, p.sv = .slice (some ⟨g, 0, none⟩) M.s.length cap ∧ g < w.heap.size ∧ p.r g = some 6 ∧
    w.cell? ⟨g, i * 2, none⟩ = some (strL (M.s.getD i zQ).1) ∧ w.cell? ⟨g, i * 2 + 1, none⟩ = some (.pointer (some ⟨(p.sp.getD i (0, 0)).1, 0, none⟩)) := by
  obtain ⟨g, cap, hv, hg, _⟩ := owns_succ h.sn (by omega)
  have hl := snL_len h.snl
  have hs : SlF snC w p.sv (snL M.s p.sp) := SlF.of_owns (by rw [hl]; exact h.sn)
  obtain ⟨a', cap', hv', _, _, hc⟩ := hs.open
  rw [hv, hl] at hv'
  cases hv'
  obtain ⟨b, off, he, hb, hc⟩ := hc 2 (fun _ => rfl) (by omega) i _ (getD_some ([], 0) (by rw [hl]; exact hi))
  cases he
  have e0 := hc 0 _ rfl
  have e1 := hc 1 _ rfl
  rw [snL_getD h.snl hi] at e0 e1
  simp only [Nat.zero_add, Nat.add_zero] at e0 e1
  exact ⟨g, cap, hv, hb, h.rs g (by rw [hv]; rfl), e0, e1⟩
set_option maxRecDepth 100000 in
set_option maxHeartbeats 800000 in
theorem find1_calls (nm x : By) (t : Value) (ht : ∃ q, t = .pointer (some ⟨q, 0, none⟩)) (b : Nat) (w : World) (hb : Blk w b [strL nm] 9) : Calls Tryz.prog 91 #[.agg #[strL x, t], .pointer (some ⟨b, 0, none⟩)] w fun e w' => e = .returned (.bool (decide (x = nm))) ∧ Fr [] w w' := by
  obtain ⟨q, rfl⟩ := ht
  have c := (hb.alloc (.cells #[strL x, .pointer (some ⟨q, 0, none⟩)] 113)).cell
  have hlt := hb.lt
  go_enter Tryz.func91, Tryz.ntmps91
  go_wp2
  go_ret
  exact ⟨ret_bool rfl, (Fr.refl _ _).alloc _⟩
def findPost (w : World) (s : List (By × List Slt)) (nm : By) (e : Ending) (w' : World) : Prop := e = .returned (.int .i64 (findZ s nm)) ∧ Fr [] w w'
set_option maxRecDepth 100000 in
set_option maxHeartbeats 1600000 in
theorem IndexS_calls (nm : By) (b : Nat) (w : World) (h : ImgW w ib p M) (hb : Blk w b [strL nm] 9) (hlen : M.s.length ≤ 8) :
    Calls Tryz.prog 90 #[p.sv, .func (.func 91) #[] #[.pointer (some ⟨b, 0, none⟩)]] w (findPost w M.s nm) := by
  have hsl := Sl.of_owns h.sn
  obtain ⟨a, cap, hsv, _⟩ := hsl
  have hn : ∀ k, Hid (k < M.s.length → (∀ j, j < k → (M.s.getD j zQ).1 ≠ nm) → (M.s.getD k zQ).1 = nm → findZ M.s nm = (k : Int)) := fun k => hidIt fun hk hj he => by
    unfold findZ findI
    have hg : ∀ j (hj : j < M.s.length), M.s[j] = M.s.getD j zQ := fun j hj => by rw [List.getD_eq_getElem?_getD, List.getElem?_eq_getElem hj]; rfl
    have : M.s.findIdx? (fun q => decide (q.1 = nm)) = some k := by
      rw [List.findIdx?_eq_some_iff_getElem]
      exact ⟨hk, by rw [hg k hk]; simpa using he, fun j hjk => by rw [hg j (by omega)]; simpa using hj j hjk⟩
    rw [this]
  have hz : Hid ((∀ j, j < M.s.length → (M.s.getD j zQ).1 ≠ nm) → findZ M.s nm = -1) := hidIt fun hj => by
    have : findI M.s nm = none := by
      unfold findI
      rw [List.findIdx?_eq_none_iff]
      intro q hq
      obtain ⟨i, hi, rfl⟩ := List.getElem_of_mem hq
      have hg : M.s[i] = M.s.getD i zQ := by rw [List.getD_eq_getElem?_getD, List.getElem?_eq_getElem hi]; rfl
      rw [hg]
      simpa using hj i hi
    unfold findZ
    rw [this]
  unfold findPost
  generalize findZ M.s nm = Z at *
  obtain ⟨n, hnn⟩ : ∃ n, n = M.s.length := ⟨_, rfl⟩
  have hat : ∀ W, Fr [] w W → ∀ i, i < n → ∃ g, a = some ⟨g, 0, none⟩ ∧ g < W.heap.size ∧ W.cell? ⟨g, i * 2, none⟩ = some (strL (M.s.getD i zQ).1) ∧ W.cell? ⟨g, i * 2 + 1, none⟩ = some (.pointer (some ⟨(p.sp.getD i (0, 0)).1, 0, none⟩)) := fun W hW i hi => by
    obtain ⟨g, cap', hv, hg, _, c0, c1⟩ := (h.fr0 hW).snap_at (by rw [← hnn]; exact hi)
    rw [hsv] at hv
    cases hv
    exact ⟨g, rfl, hg, c0, c1⟩
  rw [hsv]
  rw [← hnn] at hn hz hlen ⊢
  clear hsv hnn h
  go_enter Tryz.func90, Tryz.ntmps90
  go_wp2_with fail
  go_loopw [5, 8] (fun _ i wr => ∃ k : Nat, k ≤ n ∧ i = .int .i64 k ∧ Hid (∀ j, j < k → (M.s.getD j zQ).1 ≠ nm) ∧ Fr [] w wr) (fun _ i _ => n - (intOf i).toNat)
  case atStart => exact ⟨0, Nat.zero_le _, rfl, hidIt (fun j h => by omega), Fr.refl _ _⟩
  case round =>
    obtain ⟨k, hk, rfl, hall, hF⟩ := hrel
    by_cases hlt : k < n
    · obtain ⟨g, rfl, hg, c0, c1⟩ := hat wr hF k hlt
      have key := find1_calls nm (M.s.getD k zQ).1 _ ⟨(p.sp.getD k (0, 0)).1, rfl⟩ b wr (hb.fr0 hF)
      have hk1 := hn k
      have hall' : Hid ((M.s.getD k zQ).1 ≠ nm → ∀ j, j < k + 1 → (M.s.getD j zQ).1 ≠ nm) := hidIt (fun h j hj => by
        by_cases h2 : j = k
        · subst h2; exact h
        · exact hall.out j (by omega))
      have hyes : Hid ((M.s.getD k zQ).1 = nm → Z = (k : Int)) := hidIt fun e => hk1.out hlt hall.out e
      clear hall hat hn hz hk1
      generalize (M.s.getD k zQ).1 = x at *
      generalize (p.sp.getD k (0, 0)).1 = t at *
      go_wp2_with fail
      refine key.mono ?_
      rintro e w1 ⟨rfl, hf1⟩
      have hF1 := hF.trans0 hf1
      clear key
      by_cases hx : x = nm
      · have e := hyes.out hx
        subst e
        rw [decide_eq_true hx]
        clear hyes hall' hx
        go_wp2
        go_ret
        exact ⟨rfl, hF1⟩
      · have ha := hidIt (hall'.out hx)
        rw [decide_eq_false hx]
        clear hyes hall' hx
        go_wp2
        go_roundw
        case rel => exact ⟨k + 1, by omega, by go_num, ha, hF1⟩
        case measure => simp [intOf]; omega
    · have hke : k = n := by omega
      subst hke
      have e := hz.out hall.out
      subst e
      clear hall hn hz hat
      go_wp2
      go_ret
      exact ⟨rfl, hF⟩
set_option maxRecDepth 100000 in
set_option maxHeartbeats 800000 in
theorem iFind_calls (nm : By) (w : World) (h : ImgW w ib p M) (hlen : M.s.length ≤ 8) : Calls Tryz.prog 54 #[.pointer (some ⟨ib, 0, none⟩), strL nm] w (findPost w M.s nm) := by
  have hF0 := (Fr.refl [] w).alloc (.cells #[strL nm] 9)
  have kX := IndexS_calls nm w.heap.size _ (h.fr0 hF0) (Blk.new w [strL nm] 9) hlen
  have c := ((h.fr0 hF0).blk).cell
  unfold findPost at *
  obtain ⟨a, cap, hsv, _⟩ := Sl.of_owns h.sn
  rw [hsv] at c kX
  generalize findZ M.s nm = Z at *
  generalize M.s.length = n at *
  clear h
  have es : strL nm = .string ⟨nm.toArray⟩ := rfl
  rw [es] at c kX hF0 ⊢
  generalize (⟨nm.toArray⟩ : ByteArray) = S at *
  go_enter Tryz.func54, Tryz.ntmps54
  go_wp2_with fail
  refine kX.mono ?_
  rintro e w1 ⟨rfl, hf1⟩
  go_wp2
  go_ret
  exact ⟨rfl, hF0.trans0 hf1⟩
end
end Go.Proofs.YtilhbjjjmdnjmaaGreat

namespace Go.Proofs.YtilhbjjjmdnjmaaGreat
open Go.RowKit Go.Maps
attribute [local go_sem] mapAt_alloc mapAt_setCell mapAt_drew mapAt_drewN

def applyE (M : Img) (nm : By) : Int × Img := match findI M.s nm with | none => (122, M) | some k => (0, applyI M k)
def resizeE (M : Img) (n : Int) : Int × Img := if 0 ≤ n ∧ n ≤ 256 then (0, resizeI M n.toNat) else (1, M)
section
variable {ib : Nat} {p : Pl} {M : Img}
theorem ImgW.notT {w : World} (h : ImgW w ib p M) : notC p p.tb ∧ notC p p.mb := by
  unfold notC
  rw [h.rt, h.rm]
  exact ⟨⟨by simp, by simp⟩, by simp, by simp⟩
theorem ImgW.notS {w : World} (h : ImgW w ib p M) {i : Nat} (hi : i < M.s.length) : notC p (p.sp.getD i (0, 0)).1 ∧ notC p (p.sp.getD i (0, 0)).2 := by
  unfold notC
  rw [(h.rst i hi).1, (h.rst i hi).2]
  exact ⟨⟨by simp, by simp⟩, by simp, by simp⟩
set_option maxRecDepth 100000 in
set_option maxHeartbeats 1600000 in
theorem iApply_calls (nm : By) (w : World) (h : ImgW w ib p M) (hok : OkI M) : Calls Tryz.prog 21 #[.pointer (some ⟨ib, 0, none⟩), strL nm] w (resPost w ib p (applyE M nm)) := by
  have kF := iFind_calls nm w h hok.few
  unfold findPost at kF
  cases hk : findI M.s nm with
  | none =>
    have hz : findZ M.s nm = -1 := by unfold findZ; rw [hk]
    have hE : applyE M nm = (122, M) := by unfold applyE; rw [hk]
    rw [hz] at kF
    unfold resPost
    rw [hE]
    clear hz hE hk
    go_enter Tryz.func21, Tryz.ntmps21
    go_wp2_with fail
    refine kF.mono ?_
    rintro e w1 ⟨rfl, hf1⟩
    go_wp2
    go_ret
    exact ⟨p, rfl, h.fr0 hf1, Step.fr0 hf1⟩
  | some k =>
    obtain ⟨hks, _⟩ := findI_some hk
    have hz : findZ M.s nm = (k : Int) := by unfold findZ; rw [hk]
    have hE : applyE M nm = (0, applyI M k) := by unfold applyE; rw [hk]
    rw [hz] at kF
    unfold resPost
    rw [hE]
    have hJ := hidIt (applyJ hok (getD_memQ hks))
    have hRo : Hid (ownsI { lessL (moreL M (eachS (M.s.getD k zQ).2)) (eachS M.t) with t := (M.s.getD k zQ).2 } = applyI M k) := hidIt rfl
    have hkk := moreL_keep (eachS (M.s.getD k zQ).2) M
    have hmem := getD_memQ hks
    have hS := h.notS hks
    have hng1 : ∀ j, ng (moreL M (eachS (M.s.getD k zQ).2)) j = ng M j + cntT (M.s.getD k zQ).2 j := fun j => by
      have := moreL_n (eachS (M.s.getD k zQ).2) M (fun s hs h1 => ng_lt (hok.toOkJ.lives hmem (eachS_mem hs h1) h1)) j
      rw [this, eachS_cnt (hok.lens _ hmem)]
    have kM := fun W (hW : ImgW W ib p M) => iMore_calls (p.sp.getD k (0, 0)).1 (p.sp.getD k (0, 0)).2 (M.s.getD k zQ).2 W hW (hW.snt k hks) (hok.lens _ hmem) (hok.rights _ hmem) (fun s hs h1 => hok.toOkJ.lives hmem hs h1) (fun j => by have := hok.toOkJ.small j; have := hok.ones _ hmem j; omega) hS.1 hS.2
    have kA := fun W (hW : ImgW W ib p (moreL M (eachS (M.s.getD k zQ).2))) => iAll_calls p.tb p.mb M.t W hW (by have := hW.tab; rwa [hkk.2.1] at this) hok.len hok.right (fun j => by rw [hng1]; have := cnt_le_t hok j; omega) h.notT.1 h.notT.2
    have hks2 := moreL_keep (eachS (M.s.getD k zQ).2) M
    have hks3 := lessL_keep (eachS M.t) (moreL M (eachS (M.s.getD k zQ).2))
    have HS1 : Hid ((lessL (moreL M (eachS (M.s.getD k zQ).2)) (eachS M.t)).s = M.s) := hidIt (hks3.2.2.1.trans hks2.2.2.1)
    have HB1 : Hid ((lessL (moreL M (eachS (M.s.getD k zQ).2)) (eachS M.t)).B = M.B) := hidIt (hks3.1.trans hks2.1)
    have HS0 : Hid ((moreL M (eachS (M.s.getD k zQ).2)).s = M.s) := hidIt hks2.2.2.1
    have HB0 : Hid ((moreL M (eachS (M.s.getD k zQ).2)).B = M.B) := hidIt hks2.1
    have hks' := hidIt hks
    clear hz hE hk hkk hmem hng1 hks2 hks3 hS hok
    generalize applyI M k = R at *
    generalize moreL M (eachS (M.s.getD k zQ).2) = M1 at *
    generalize lessL M1 (eachS M.t) = M2 at *
    obtain ⟨q, hq⟩ : ∃ q, Hid (q = (M.s.getD k zQ).2) := ⟨_, hidIt rfl⟩
    rw [← hq.out] at hJ hRo
    go_enter Tryz.func21, Tryz.ntmps21
    go_wp2_with fail
    refine kF.mono ?_
    rintro e w1 ⟨rfl, hf1⟩
    have h1 := h.fr0 hf1
    have hst1 : Step w p w1 p := Step.fr0 hf1
    have b1 := h1.blk.cell
    obtain ⟨ts, hts⟩ : ∃ ts, Hid ((p.sp.getD k (0, 0)).1 = ts) := ⟨_, hidIt rfl⟩
    obtain ⟨g, cap, hsv, hg, _, c0, c1⟩ := h1.snap_at hks'.out
    have Hsv := hidIt hsv
    rw [hsv] at b1
    have kM1 := kM w1 h1
    rw [hts.out] at kM1 c1
    clear kF kM hsv
    obtain ⟨ns, hns⟩ : ∃ ns, Hid (M.s.length = ns) := ⟨_, hidIt rfl⟩
    rw [hns.out] at b1 hks hks' Hsv
    go_wp2_with fail
    refine kM1.mono ?_
    rintro e w2 ⟨rfl, h2, hf2⟩
    have b2 := h2.blk.cell
    have hst2 := hst1.trans (Step.ofC hf2)
    have kA2 := kA w2 h2
    clear b1 c0 c1 kM1 hg hf2 hf1 hst1 kA
    go_wp2_with fail
    refine kA2.mono ?_
    rintro e w3 ⟨rfl, h3, hf3⟩
    have hst3 := hst2.trans (Step.ofC hf3)
    have hk3 : k < M2.s.length := by rw [HS1.out, hns.out]; exact hks
    obtain ⟨g3, cap3, hsv3, hg3, _, _, c1⟩ := h3.snap_at hk3
    have b3 := h3.blk.cell
    rw [hsv3] at b3
    rw [HS1.out, hns.out] at b3
    rw [hts.out] at c1
    have hT3 := h3.snt k hk3
    rw [HS1.out, hts.out, ← hq.out] at hT3
    have kC := tCopy_calls _ _ _ w3 hT3
    clear b2 kA2 hsv3 hst2 hf3 hk3
    go_wp2_with fail
    refine kC.mono ?_
    rintro e w4 ⟨tb', mb', rfl, ht1, hm1, hT4, hf4⟩
    have h4 := h3.fr0 hf4
    have b4 := h4.blk
    have c4 := b4.cell
    have f4 := b4.frozen
    have l4 := b4.lt
    have rt := h3.new ht1
    have rm := h3.new hm1
    have l3 := h3.blk.lt
    clear b3 c1 kC hT3 hg3
    go_wp2_with fail
    have hs5 := Fr.setCell (p := ⟨ib, 1, none⟩) (Fr.refl [ib] w4) (.inl (by simp)) (.pointer (some ⟨tb', 0, none⟩))
    have b5 := b4.setCell 1 (.pointer (some ⟨tb', 0, none⟩))
    have hT5 := hT4.fr hs5 (fun hm => by rw [List.mem_singleton.1 hm, h4.ri] at rt; cases rt) (fun hm => by rw [List.mem_singleton.1 hm, h4.ri] at rm; cases rm)
    have h5 := h4.putT hT5 rt rm b5 hs5
    have hst5 : Step w p (w4.setCell ⟨ib, 1, none⟩ (.pointer (some ⟨tb', 0, none⟩))) (p.putT tb' mb') := by
      refine hst3.trans ⟨(hf4.weak).trans' (hs5.mono (fun y hy hl => by rw [List.mem_singleton.1 hy]; exact mem_own.2 ⟨l3, by rw [h4.ri]; rfl⟩)), fun y hy => ?_⟩
      by_cases e1 : y = tb'
      · subst e1; exact .inr ht1
      · by_cases e2 : y = mb'
        · subst e2; exact .inr hm1
        · exact .inl (by simpa [Pl.putT, e1, e2] using hy)
    have kO := iOwns_calls _ h5 hJ.out
    rw [hRo.out] at kO
    refine kO.mono ?_
    rintro e w6 ⟨rfl, h6, hst6⟩
    have hst7 := hst5.trans hst6
    clear b4 c4 f4 l4 h5 hst5 kO hT5 hT4 h4 hs5 b5
    go_wp2
    go_ret
    exact ⟨_, rfl, h6, hst7⟩
set_option maxRecDepth 100000 in
set_option maxHeartbeats 1600000 in
theorem iResize_calls (n : Int) (w : World) (h : ImgW w ib p M) (hok : OkI M) : Calls Tryz.prog 19 #[.pointer (some ⟨ib, 0, none⟩), .int .i64 n] w (resPost w ib p (resizeE M n)) := by
  have kR := Resize_calls p.tb p.mb M.t n w h.tab
  have b0 := h.blk.cell
  unfold resPost resizeE
  unfold ResizePost tResize at kR
  by_cases hn : 0 ≤ n ∧ n ≤ 256
  case neg =>
    rw [if_neg hn]
    rw [if_neg hn] at kR
    simp only at kR ⊢
    clear hn
    go_enter Tryz.func19, Tryz.ntmps19
    go_wp2_with fail
    refine kR.mono ?_
    rintro e w1 ⟨v, rfl, ho, hT, hf⟩
    have h1 := h.setT hT hf (fun k hk => by simpa using hk)
    have hst1 : Step w p w1 p := Step.of_fr hf (fun k hk _ => by
      rcases List.mem_cons.1 hk with rfl | hk
      · rw [h.rt]; rfl
      · rw [List.mem_singleton.1 hk, h.rm]; rfl)
    obtain ⟨a, cap, rfl, _⟩ := Sl.of_owns ho
    clear ho hT hf kR b0
    go_wp2_with fail
    go_loopw [8, 20] (fun _ i wr => wr = w1 ∧ i = .int .i64 0) (fun _ i _ => 0)
    case atStart => exact ⟨rfl, rfl⟩
    case round =>
      obtain ⟨rfl, rfl⟩ := hrel
      go_wp2
      go_ret
      exact ⟨p, rfl, h1, hst1⟩
  rw [if_pos hn]
  rw [if_pos hn] at kR
  simp only at kR ⊢
  obtain ⟨m, rfl⟩ := Int.eq_ofNat_of_zero_le hn.1
  have hm256 : m ≤ 256 := by omega
  rw [Int.toNat_natCast] at kR ⊢
  change Calls _ _ _ _ (fun e w' => ∃ v, e = _ ∧ w'.ownsRow w.heap.size 90 3 v (goneT M.t m).length ((goneT M.t m).flatMap slotC) ∧ TabW w' p.tb p.mb (cutT M.t m) ∧ Fr [p.tb, p.mb] w w') at kR
  have hJ := hidIt (resizeJ hok m hm256)
  have hRo : Hid (ownsI (lessL { M with t := cutT M.t m } (goneT M.t m)) = resizeI M m) := hidIt rfl
  have hgl : (goneT M.t m).length ≤ 256 := Nat.le_trans (List.length_filter_le _ _) (by have := hok.len; simp; omega)
  have hlv : ∀ k, k < (goneT M.t m).length → Hid (liveS (lessL { M with t := cutT M.t m } ((goneT M.t m).take k)) ((goneT M.t m).getD k zS)) := fun k hk => hidIt (lessL_live (M := { M with t := cutT M.t m }) (fun s hs _ => hok.right _ (goneT_mem hs)) (gone_le hok m) hk)
  have hnx : ∀ k, k < (goneT M.t m).length → Hid (lessL { M with t := cutT M.t m } ((goneT M.t m).take (k + 1)) = lessI (lessL { M with t := cutT M.t m } ((goneT M.t m).take k)) ((goneT M.t m).getD k zS)) := fun k hk => hidIt (lessL_succ _ hk)
  have hend : Hid (lessL { M with t := cutT M.t m } ((goneT M.t m).take (goneT M.t m).length) = lessL { M with t := cutT M.t m } (goneT M.t m)) := hidIt (by rw [List.take_length])
  clear hn
  generalize resizeI M m = R at *
  go_enter Tryz.func19, Tryz.ntmps19
  go_wp2_with fail
  refine kR.mono ?_
  rintro e w1 ⟨v, rfl, ho, hT, hf⟩
  have h1 := h.setT hT hf (fun k hk => by simpa using hk)
  have hst1 : Step w p w1 p := Step.of_fr hf (fun k hk _ => by
    rcases List.mem_cons.1 hk with rfl | hk
    · rw [h.rt]; rfl
    · rw [List.mem_singleton.1 hk, h.rm]; rfl)
  have hgs : SlS w1 v (goneT M.t m) := SlF.of_owns ho
  have hvn : ∀ y, v.ownBlock = some y → w.heap.size ≤ y := own_base ho
  obtain ⟨a, cap, rfl, _⟩ := Sl.of_owns ho
  have h10 : ImgW w1 ib p (lessL { M with t := cutT M.t m } ((goneT M.t m).take 0)) := h1
  have hvr : ∀ y, (Value.slice a (goneT M.t m).length cap).ownBlock = some y → p.r y = none := fun y hy => h.new (hvn y hy)
  clear ho hT hf kR b0 hvn
  generalize hMM : ({ M with t := cutT M.t m } : Img) = MM at *
  generalize goneT M.t m = q at *
  clear hMM h h1
  go_wp2_with fail
  go_loopw [8, 20] (fun _ i wr => ∃ k : Nat, k ≤ q.length ∧ i = .int .i64 (k : Int) ∧ ImgW wr ib p (lessL MM (q.take k)) ∧ Step w1 p wr p) (fun _ i _ => q.length - (intOf i).toNat)
  case atStart => exact ⟨0, Nat.zero_le _, rfl, h10, Step.refl _ _⟩
  case round =>
    clear h10
    obtain ⟨k, hk, rfl, hi, hs⟩ := hrel
    by_cases hlt : k < q.length
    · have hgk : SlS wr (.slice a q.length cap) q := SlF.fr hgs hs.fr (fun y hy hm => by have := (mem_own.1 hm).2; rw [hvr y hy] at this; cases this)
      obtain ⟨b, off, rfl, hb, c0, c1, c2⟩ := SlS.at hgk hlt
      have hl := hlv k hlt
      have hx := hnx k hlt
      obtain ⟨R1, hR1⟩ : ∃ R1, Hid (lessL MM (q.take (k + 1)) = R1) := ⟨_, hidIt rfl⟩
      rw [hR1.out] at hx
      clear hlv hnx hend hgk hgs
      generalize lessL MM (q.take k) = RR at *
      generalize q.getD k zS = s at *
      obtain ⟨s0, s1, s2⟩ := s
      simp only at c0 c1 c2
      have hfp := (Fr.refl [] wr).alloc (.cells #[.int .i64 s0, .int .i64 s1, .bool s2] 90)
      have hi2 := hi.fr0 hfp
      have kL := iLess_calls (s0, s1, s2) _ hi2 hl.out
      rw [← hx.out] at kL
      unfold slotV samePost at kL
      simp only at kL
      clear hi hi2 hl hx
      go_wp2_with fail
      refine kL.mono ?_
      rintro e w4 ⟨rfl, hi4, hs4⟩
      have hst4 := hs.trans ((Step.fr0 hfp).trans hs4)
      clear kL c0 c1 c2 hs4 hfp hs
      go_wp2
      go_roundw
      case rel => exact ⟨k + 1, by omega, by go_num, by rw [hR1.out]; exact hi4, hst4⟩
      case measure => simp [intOf]; omega
    · have hke : k = q.length := by omega
      subst hke
      rw [hend.out] at hi
      have kO := iOwns_calls _ hi hJ.out
      rw [hRo.out] at kO
      have hs' := hst1.trans hs
      clear hlv hnx hend hJ hRo hi hs
      go_wp2_with fail
      refine kO.mono ?_
      rintro e w6 ⟨rfl, h6, hst6⟩
      have hst7 := hs'.trans hst6
      clear kO hs'
      go_wp2
      go_ret
      exact ⟨p, rfl, h6, hst7⟩
end
end Go.Proofs.YtilhbjjjmdnjmaaGreat
