/-
  Package image: Copy.
-/
import Derived.Test.YtilhbjjjmdnjmaaM32
import Derived.Test.YtilhbjjjmdnjmaaM35
import Derived.Test.YtilhbjjjmdnjmaaM40
import Derived.Test.YtilhbjjjmdnjmaaM41
namespace Go.Proofs.Ytilhbjjjmdnjmaa
open Go.RowKit Go.Maps
attribute [local go_sem] mapAt_alloc mapAt_setCell mapAt_drew mapAt_drewN

def copyPost (w : World) (M : Img) (e : Ending) (w' : World) : Prop := ∃ ib p, e = .returned (.pointer (some ⟨ib, 0, none⟩)) ∧ ImgW w' ib p M ∧ (∀ k, (p.r k).isSome = true → w.heap.size ≤ k) ∧ Fr [] w w'
open Classical in
/-- with the bytes of the hosts of which L does not hold -/
noncomputable def leftD (M : Img) (L : Value → Prop) (s : List (By × List Slt)) : Img := { M with d := fun h => if L (.int .i64 (h : Int)) then none else M.d h, s := s }
section
variable {ib : Nat} {p : Pl} {M : Img}
theorem leftD_start : leftD M (fun k => (datM M p k).isSome = true) [] = { B := M.B, t := M.t, n := M.n, d := fun _ => none, s := [] } := by
  unfold leftD
  congr 1
  funext h
  split
  · rfl
  · rename_i hn
    simp only [datM_nat] at hn
    cases e : M.d h with
    | none => rfl
    | some b => rw [e] at hn; exact absurd rfl hn
theorem leftD_end {L : Value → Prop} (h : ∀ k, ¬ L k) (s : List (By × List Slt)) : leftD M L s = { M with s := s } := by
  unfold leftD
  congr 1
  funext y
  rw [if_neg (h _)]
theorem leftD_step {L : Value → Prop} {h : Nat} {b : By} (hb : M.d h = some b) (s : List (By × List Slt)) : { leftD M L s with d := setF (leftD M L s).d h (some b) } = leftD M (fun x => L x ∧ x ≠ .int .i64 (h : Int)) s := by
  unfold leftD setF
  simp only [Img.mk.injEq, true_and, and_true]
  funext y
  by_cases e : y = h
  · subst e
    rw [if_pos rfl, if_neg (fun hh => hh.2 rfl), hb]
  · rw [if_neg e]
    have : (Value.int .i64 (y : Int) : Value) ≠ .int .i64 (h : Int) := fun e' => e (by injection e' with _ e'; omega)
    by_cases hl : L (.int .i64 (y : Int))
    · rw [if_pos hl, if_pos ⟨hl, this⟩]
    · rw [if_neg hl, if_neg (fun hh => hl hh.1)]
theorem takeQ {s : List (By × List Slt)} {k : Nat} (hk : k < s.length) : s.take (k + 1) = s.take k ++ [((s.getD k zQ).1, (s.getD k zQ).2)] := by
  have hg : s[k] = s.getD k zQ := by rw [List.getD_eq_getElem?_getD, List.getElem?_eq_getElem hk]; rfl
  rw [List.take_succ_eq_append_getElem hk, hg]
theorem datM_some {k v : Value} (h : datM M p k = some v) : ∃ (y : Nat) (b : By), k = .int .i64 (y : Int) ∧ M.d y = some b ∧ v = p.dv y := by
  cases k with
  | int q k =>
    cases q <;> first | (simp [datM] at h; done) | skip
    rw [datM_int] at h
    split at h
    · obtain ⟨b, hb, rfl⟩ := Option.map_eq_some_iff.1 h
      exact ⟨k.toNat, b, by congr 1; omega, hb, rfl⟩
    · cases h
  | _ => simp [datM] at h
set_option maxRecDepth 100000 in
set_option maxHeartbeats 6400000 in
theorem iCopy_calls (w : World) (h : ImgW w ib p M) (hok : OkI M) : Calls Try.prog 24 #[.pointer (some ⟨ib, 0, none⟩)] w (copyPost w M) := by
  have hmm := @run_makeMap Try.prog
  have hd : Fr [] w w.drew := (Fr.refl _ _).drew
  have hid := h.fr0 hd
  have bd := hid.blk
  have kT := fun W (hW : Fr [] w.drew W) => tCopy_calls p.tb p.mb M.t W (hid.fr0 hW).tab
  have kC := fun W (hW : Fr [] w.drew W) => cCopy_calls p.nb p.nv M.n W (hid.fr0 hW).cnt
  unfold cCopyPost at kC
  unfold copyPost
  go_enter Try.func24, Try.ntmps24
  go_wp2_with fail
  refine wp_region_N (Fr [] w.drew) (.takes [0, 1, 2, 3, 4, 5, 6, 7, 9, 10, 11, 12] (.two 8 (.two 13 (.one 14 (.take 15 (.one 16 (.take 17 .fin)))) 14 (.one 13 (.take 15 (.one 16 (.take 17 .fin))))) 14 (.one 8 (.one 13 (.take 15 (.one 16 (.take 17 .fin))))))) (by as_aux_lemma => kernel_rfl) (by as_aux_lemma => kernel_rfl) (Fr.refl _ _) ?_
  iterate 3
    refine wpN_pure rfl fun K hK => ?_
    simp only [List.getD_cons_zero, List.getD_cons_succ]
    go_simp
    refine hK _ ?_
    clear hK K
  refine wpN_val rfl (.int .i64 (M.B : Int)) (by simp only [List.getD_cons_zero, List.getD_cons_succ]; first | rfl | go_simp) (fun X hX => by simp only [List.getD_cons_zero, List.getD_cons_succ]; have cc := (bd.fr0 hX).cell; go_simp) ?_
  simp only [List.getD_cons_zero, List.getD_cons_succ, Act.put, List.setIfInBounds_toArray, List.set_cons_zero, List.set_cons_succ]
  iterate 3
    refine wpN_pure rfl fun K hK => ?_
    simp only [List.getD_cons_zero, List.getD_cons_succ]
    go_simp
    refine hK _ ?_
    clear hK K
  refine wpN_val rfl (.pointer (some ⟨p.tb, 0, none⟩)) (by simp only [List.getD_cons_zero, List.getD_cons_succ]; first | rfl | go_simp) (fun X hX => by simp only [List.getD_cons_zero, List.getD_cons_succ]; have cc := (bd.fr0 hX).cell; go_simp) ?_
  simp only [List.getD_cons_zero, List.getD_cons_succ, Act.put, List.setIfInBounds_toArray, List.set_cons_zero, List.set_cons_succ]
  iterate 3
    refine wpN_pure rfl fun K hK => ?_
    simp only [List.getD_cons_zero, List.getD_cons_succ]
    go_simp
    refine hK _ ?_
    clear hK K
  refine wpN_val rfl (.pointer (some ⟨p.nb, 0, none⟩)) (by simp only [List.getD_cons_zero, List.getD_cons_succ]; first | rfl | go_simp) (fun X hX => by simp only [List.getD_cons_zero, List.getD_cons_succ]; have cc := (bd.fr0 hX).cell; go_simp) ?_
  simp only [List.getD_cons_zero, List.getD_cons_succ, Act.put, List.setIfInBounds_toArray, List.set_cons_zero, List.set_cons_succ]
  refine wpN_two rfl rfl (fun K hK => ?_) (fun K hK => ?_)
  case' refine_1 =>
    simp only [List.getD_cons_zero, List.getD_cons_succ]
    go_simp
    refine (kT _ (Fr.refl _ _)).mono ?_
    rintro e w1 ⟨tb, mb, rfl, ht, hm, hT, hf1⟩
    have hltT := hT.lt
    refine hK _ _ hf1 ?_
    clear hK K
    refine wpN_two rfl rfl (fun K hK => ?_) (fun K hK => ?_)
    case' refine_1 =>
      simp only [List.getD_cons_zero, List.getD_cons_succ]
      go_simp
      refine (kC _ hf1).mono ?_
      rintro e w2 ⟨nb, nv, rfl, hC, hnb, hnv, hf2⟩
      have hz1 := hf1.size
      have hz2 := hf2.size
      have hFW := (hf1.trans0 hf2).alloc (.map #[] 0)
      refine hK _ _ (hf1.trans0 hf2) ?_
      clear hK K
      refine wpN_one rfl fun K hK => ?_
      simp only [List.getD_cons_zero, List.getD_cons_succ]
      go_simp
      refine hK _ _ hFW ?_
      clear hK K
      have hfa := (Fr.refl [] w2).alloc (.map #[] 0)
      replace hT := (hT.fr0 hf2).fr0 hfa
      replace hC := hC.fr0 hfa
      have hmp : mapAt (w2.alloc (.map #[] 0)) w2.heap.size = some (#[], 0) := by rw [mapAt_some]; exact heap_alloc_new w2 _
      have hz0 : w.heap.size = w.drew.heap.size := rfl
      have hdm : w2.heap.size ≠ mb := by omega
      have hdl : w.heap.size ≤ w2.heap.size := by omega
      replace hnb : w.heap.size ≤ nb := by omega
      replace hnv : ∀ k, nv.ownBlock = some k → w.heap.size ≤ k := fun k hk => by have := hnv k hk; omega
      clear hf1 hf2 hfa hltT hz1 hz2 hz0
      obtain ⟨db, hdb⟩ : ∃ db, db = w2.heap.size := ⟨_, rfl⟩
      rw [← hdb] at hmp hdm hdl ⊢
      generalize w2.alloc (.map #[] 0) = W at *
      clear hdb
      iterate 1
        refine wpN_pure rfl fun K hK => ?_
        simp only [List.getD_cons_zero, List.getD_cons_succ]
        go_simp
        refine hK _ ?_
        clear hK K
      refine wpN_one rfl fun K hK => ?_
      simp only [List.getD_cons_zero, List.getD_cons_succ]
      go_simp
      refine hK _ _ (hFW.alloc _) ?_
      clear hK K
      iterate 1
        refine wpN_pure rfl fun K hK => ?_
        simp only [List.getD_cons_zero, List.getD_cons_succ]
        go_simp
        refine hK _ ?_
        clear hK K
      refine wpN_end ?_
    case' refine_2 =>
      simp only [List.getD_cons_zero, List.getD_cons_succ]
      go_simp
      have hfa := (Fr.refl [] w1).alloc (.map #[] 0)
      have hmp : mapAt (w1.alloc (.map #[] 0)) w1.heap.size = some (#[], 0) := by rw [mapAt_some]; exact heap_alloc_new w1 _
      have hF2 := hf1.alloc (.map #[] 0)
      refine hK _ _ hF2 ?_
      clear hK K
      refine wpN_one rfl fun K hK => ?_
      simp only [List.getD_cons_zero, List.getD_cons_succ]
      go_simp
      refine (kC _ hF2).mono ?_
      rintro e W ⟨nb, nv, rfl, hC, hnb, hnv, hf2⟩
      have hz1 := hf1.size
      have hz3 := hfa.size
      have hFW := hF2.trans0 hf2
      refine hK _ _ hFW ?_
      clear hK K
      replace hT := (hT.fr0 hfa).fr0 hf2
      replace hmp := mapAt_fr hmp hf2 (fun h => by cases h)
      have hz0 : w.heap.size = w.drew.heap.size := rfl
      have hdm : w1.heap.size ≠ mb := by omega
      have hdl : w.heap.size ≤ w1.heap.size := by omega
      replace hnb : w.heap.size ≤ nb := by omega
      replace hnv : ∀ k, nv.ownBlock = some k → w.heap.size ≤ k := fun k hk => by have := hnv k hk; omega
      clear hf1 hf2 hfa hltT hz1 hz0 hz3 hF2
      obtain ⟨db, hdb⟩ : ∃ db, db = w1.heap.size := ⟨_, rfl⟩
      rw [← hdb] at hmp hdm hdl ⊢
      clear hdb
      iterate 1
        refine wpN_pure rfl fun K hK => ?_
        simp only [List.getD_cons_zero, List.getD_cons_succ]
        go_simp
        refine hK _ ?_
        clear hK K
      refine wpN_one rfl fun K hK => ?_
      simp only [List.getD_cons_zero, List.getD_cons_succ]
      go_simp
      refine hK _ _ (hFW.alloc _) ?_
      clear hK K
      iterate 1
        refine wpN_pure rfl fun K hK => ?_
        simp only [List.getD_cons_zero, List.getD_cons_succ]
        go_simp
        refine hK _ ?_
        clear hK K
      refine wpN_end ?_
  case' refine_2 =>
    simp only [List.getD_cons_zero, List.getD_cons_succ]
    go_simp
    have hfa := (Fr.refl [] w.drew).alloc (.map #[] 0)
    have hmp : mapAt (w.drew.alloc (.map #[] 0)) w.drew.heap.size = some (#[], 0) := by rw [mapAt_some]; exact heap_alloc_new w.drew _
    refine hK _ _ hfa ?_
    clear hK K
    refine wpN_one rfl fun K hK => ?_
    simp only [List.getD_cons_zero, List.getD_cons_succ]
    go_simp
    refine (kT _ hfa).mono ?_
    rintro e w1 ⟨tb, mb, rfl, ht, hm, hT, hf1⟩
    refine hK _ _ (hfa.trans0 hf1) ?_
    clear hK K
    refine wpN_one rfl fun K hK => ?_
    simp only [List.getD_cons_zero, List.getD_cons_succ]
    go_simp
    refine (kC _ (hfa.trans0 hf1)).mono ?_
    rintro e W ⟨nb, nv, rfl, hC, hnb, hnv, hf2⟩
    have hz1 := hf1.size
    have hFW := (hfa.trans0 hf1).trans0 hf2
    refine hK _ _ hFW ?_
    clear hK K
    replace hT := hT.fr0 hf2
    replace hmp := mapAt_fr (mapAt_fr hmp hf1 (fun h => by cases h)) hf2 (fun h => by cases h)
    have hsz : (w.drew.alloc (.map #[] 0)).heap.size = w.heap.size + 1 := by simp
    rw [hsz] at ht hm hz1
    have hz0 : w.heap.size = w.drew.heap.size := rfl
    have hdm : w.drew.heap.size ≠ mb := by omega
    have hdl : w.heap.size ≤ w.drew.heap.size := by omega
    replace ht : w.drew.heap.size ≤ tb := by omega
    replace hm : w.drew.heap.size ≤ mb := by omega
    replace hnb : w.heap.size ≤ nb := by omega
    replace hnv : ∀ k, nv.ownBlock = some k → w.heap.size ≤ k := fun k hk => by have := hnv k hk; omega
    clear hf1 hf2 hfa hz1 hsz
    obtain ⟨db, hdb⟩ : ∃ db, db = w.drew.heap.size := ⟨_, rfl⟩
    rw [← hdb] at hmp hdm
    replace hdl : w.heap.size ≤ db := by omega
    have hdb2 : w.heap.size = db := hdb.symm
    rw [hdb2]
    rw [hdb2] at hz0
    clear hdb hdb2 hz0
    iterate 1
      refine wpN_pure rfl fun K hK => ?_
      simp only [List.getD_cons_zero, List.getD_cons_succ]
      go_simp
      refine hK _ ?_
      clear hK K
    refine wpN_one rfl fun K hK => ?_
    simp only [List.getD_cons_zero, List.getD_cons_succ]
    go_simp
    refine hK _ _ (hFW.alloc _) ?_
    clear hK K
    iterate 1
      refine wpN_pure rfl fun K hK => ?_
      simp only [List.getD_cons_zero, List.getD_cons_succ]
      go_simp
      refine hK _ ?_
      clear hK K
    refine wpN_end ?_
  all_goals
    have hsz : w.heap.size ≤ W.heap.size := hFW.size
    have hfb := (Fr.refl [] W).alloc (.cells #[.int .i64 (M.B : Int), .pointer (some ⟨tb, 0, none⟩), .pointer (some ⟨nb, 0, none⟩), .map (some db), .slice none 0 0] 62)
    obtain ⟨p0, hI0, hn0, _⟩ := ImgW.start (b0 := w.heap.size) (hT.fr0 hfb) (hC.fr0 hfb) (db := db) (es := #[]) (clock := 0) (mapAt_fr hmp hfb (fun h => by cases h)) IsM.empty (ib := W.heap.size) (B := M.B) (Blk.new W _ _) hdm ht hm hnb hnv hdl hsz
    have hF0 : Fr [] w (W.alloc (.cells #[.int .i64 (M.B : Int), .pointer (some ⟨tb, 0, none⟩), .pointer (some ⟨nb, 0, none⟩), .map (some db), .slice none 0 0] 62)) := (hd.trans0 hFW).trans0 hfb
    have hob : Hid (W.heap.size < (W.alloc (.cells #[.int .i64 (M.B : Int), .pointer (some ⟨tb, 0, none⟩), .pointer (some ⟨nb, 0, none⟩), .map (some db), .slice none 0 0] 62)).heap.size) := hidIt (by simp)
    clear hT hC hmp hdm hnb hnv hdl hfb hFW ht hm kT kC hid bd hd
    generalize W.alloc (.cells #[.int .i64 (M.B : Int), .pointer (some ⟨tb, 0, none⟩), .pointer (some ⟨nb, 0, none⟩), .map (some db), .slice none 0 0] 62) = W0 at *
    generalize W.heap.size = ob at *
    have h0 := h.fr0 hF0
    obtain ⟨es, clock, hm0, hi0⟩ := h0.dat
    have c0 := h0.blk.cell
    go_wp2_with (first
      | (at_range; refine wpList_range_isM rfl _ _ rfl Try.underlying59 hi0 p.db rfl hm0 ?_; intro hrg0)
      | go_in)
    go_frame
    have hfr := (Fr.refl [] W0).alloc (.mapIter (some p.db) clock #[] clock)
    have hF1 := hF0.trans0 hfr
    have hI1 := hI0.fr0 hfr
    rw [← leftD_start (p := p)] at hI1
    have hrn : p0.r W0.heap.size = none := hI0.new (Nat.le_refl _)
    have hrw : w.heap.size ≤ W0.heap.size := hF0.size
    clear hm0 hi0 c0 hI0 h0 hfr hF0
    generalize W0.alloc (.mapIter (some p.db) clock #[] clock) = W1 at *
    generalize W0.heap.size = rb at *
    go_loopw [4, 5] (fun _ _ wr => ∃ L cnt p', RngM Try.prog 3 wr p.db rb (datM M p) L cnt ∧ ImgW wr ob p' (leftD M L []) ∧ (∀ k, (p'.r k).isSome = true → w.heap.size ≤ k) ∧ p'.r rb = none ∧ Fr [] w wr) (fun _ _ wr => wr.rangeLeft p.db rb)
    case atStart => exact ⟨_, _, p0, hrg0, hI1, hn0, hrn, hF1⟩
    case round =>
      clear hrg0 hI1 hF1 hrn hn0
      obtain ⟨L, cnt, p', hrg, hI, hn, hrn, hF⟩ := hrel
      have hleft := hidIt hrg.left
      have hdb' : p.db < w.heap.size := by obtain ⟨es, clock, hm, _⟩ := h.dat; exact mapAt_lt hm
      go_wp2_with (first
        | (at_next; refine wpList_next_isM rfl _ rfl p.db rb rfl hrg ?_ ?_)
        | go_in)
      · intro hL0
        rw [leftD_end hL0] at hI
        have hfew := hok.few
        obtain ⟨a, cap, hsv, _⟩ := Sl.of_owns h.sn
        obtain ⟨ns, hns⟩ : ∃ ns, Hid (M.s.length = ns) := ⟨_, hidIt rfl⟩
        rw [hns.out] at hsv hfew
        have b0 := (h.fr0 hF).blk.cell
        rw [hsv] at b0
        have hIs : ImgW wr ob p' { M with s := M.s.take 0 } := hI
        have hat : ∀ W, Fr [] w W → ∀ i, i < ns → ∃ g, a = some ⟨g, 0, none⟩ ∧ g < W.heap.size ∧ W.cell? ⟨g, i * 2, none⟩ = some (strL (M.s.getD i zQ).1) ∧ W.cell? ⟨g, i * 2 + 1, none⟩ = some (.pointer (some ⟨(p.sp.getD i (0, 0)).1, 0, none⟩)) ∧ TabW W (p.sp.getD i (0, 0)).1 (p.sp.getD i (0, 0)).2 (M.s.getD i zQ).2 := fun W hW i hi => by
          obtain ⟨g, cap', hv, hg, _, c0, c1⟩ := (h.fr0 hW).snap_at (by rw [hns.out]; exact hi)
          rw [hsv] at hv
          cases hv
          exact ⟨g, rfl, hg, c0, c1, (h.fr0 hW).snt i (by rw [hns.out]; exact hi)⟩
        have hnx : ∀ i, i < ns → Hid (M.s.take (i + 1) = M.s.take i ++ [((M.s.getD i zQ).1, (M.s.getD i zQ).2)]) := fun i hi => hidIt (takeQ (by rw [hns.out]; exact hi))
        have hend : Hid ({ M with s := M.s.take ns } = M) := hidIt (by rw [← hns.out, List.take_length])
        have hB0 : Hid (∀ i, i ≤ ns → (M.s.take i).length = i) := hidIt (fun i hi => by rw [List.length_take]; have := hns.out; omega)
        clear hI hrn hrg hleft hL0 hdb'
        go_wp2_with fail
        go_loopw [7, 47] (fun _ i wr2 => ∃ (k : Nat) (p2 : Pl), k ≤ ns ∧ i = .int .i64 (k : Int) ∧ ImgW wr2 ob p2 { M with s := M.s.take k } ∧ (∀ y, (p2.r y).isSome = true → w.heap.size ≤ y) ∧ Fr [] w wr2) (fun _ i _ => ns - (intOf i).toNat)
        case atStart => exact ⟨0, p', Nat.zero_le _, rfl, hIs, hn, hF⟩
        case round =>
          clear hIs hn hF b0
          obtain ⟨k, p2, hk, rfl, hI, hn, hF⟩ := hrel
          by_cases hlt : k < ns
          · obtain ⟨g, rfl, hg, c0, c1, hT⟩ := hat wr hF k hlt
            have hx := hnx k hlt
            have hBk := hidIt (hB0.out k hk)
            clear hat hnx hend hB0
            generalize (M.s.getD k zQ).1 = nm at *
            generalize (M.s.getD k zQ).2 = l at *
            generalize (p.sp.getD k (0, 0)).1 = ts at *
            generalize (p.sp.getD k (0, 0)).2 = tsm at *
            obtain ⟨S, hS⟩ : ∃ S, Hid (Value.string S = strL nm) := ⟨⟨nm.toArray⟩, hidIt rfl⟩
            rw [← hS.out] at c0
            have hfx := (Fr.refl [] wr).alloc (.cells #[.string S, .pointer (some ⟨ts, 0, none⟩)] 78)
            have hIx := hI.fr0 hfx
            have Bx := Blk.new wr [.string S, .pointer (some ⟨ts, 0, none⟩)] 78
            have hxn : p2.r wr.heap.size = none := hI.new (Nat.le_refl _)
            have hFx := hF.trans0 hfx
            have hTx := hT.fr0 hfx
            have hwx : w.heap.size ≤ wr.heap.size := hF.size
            clear hI hF hT hfx
            go_wp2_with fail
            clear c0 c1
            generalize wr.alloc (.cells #[.string S, .pointer (some ⟨ts, 0, none⟩)] 78) = w3 at *
            have hd3 : Fr [] w3 w3.drew := (Fr.refl _ _).drew
            have hid := hIx.fr0 hd3
            obtain ⟨a2, q2, hsv2, _⟩ := Sl.of_owns hid.sn
            have hsn := hid.sn
            have bod := hid.blk
            have hr6 := hid.rs
            simp only at hsv2 hsn bod
            rw [hBk.out] at hsv2 hsn
            rw [hsv2] at bod hr6 hsn
            have nob : ob ∉ (Value.slice a2 k q2).ownBlock.toList := fun hm => by have := hr6 ob (Option.mem_toList.1 hm); rw [hid.ri] at this; cases this
            have nbx : wr.heap.size ∉ (Value.slice a2 k q2).ownBlock.toList := fun hm => by have := hr6 _ (Option.mem_toList.1 hm); rw [hxn] at this; cases this
            have bxd := Bx.fr0 hd3
            have kCp := tCopy_calls ts tsm l w3.drew (hTx.fr0 hd3)
            refine wp_region_Z 15 (Fr (Value.slice a2 k q2).ownBlock.toList w3.drew) [(true, 0), (true, 1), (true, 2), (true, 3), (true, 4), (true, 5), (true, 6), (true, 7), (true, 8), (false, 9), (true, 10), (false, 11), (false, 12), (false, 13), (false, 14)] (by as_aux_lemma => kernel_rfl) (by as_aux_lemma => kernel_rfl) (Fr.refl _ _) ?_
            simp only [inOrder, List.map_cons, List.map_nil, List.getD_cons_zero, List.getD_cons_succ]
            iterate 4
              refine wpG_pure fun K hK => ?_
              go_simp
              refine hK _ ?_
              clear hK K
            refine wpG_val (.slice a2 k q2) (by first | rfl | go_simp) (fun X hX => by have cc := (bod.fr hX nob).cell; go_simp) ?_
            simp only [Act.put, List.setIfInBounds_toArray, List.set_cons_zero, List.set_cons_succ]
            iterate 1
              refine wpG_pure fun K hK => ?_
              go_simp
              refine hK _ ?_
              clear hK K
            refine wpG_val (.string S) (by first | rfl | go_simp) (fun X hX => by have cc := (bxd.fr hX nbx).cell; go_simp) ?_
            simp only [Act.put, List.setIfInBounds_toArray, List.set_cons_zero, List.set_cons_succ]
            iterate 1
              refine wpG_pure fun K hK => ?_
              go_simp
              refine hK _ ?_
              clear hK K
            refine wpG_val (.pointer (some ⟨ts, 0, none⟩)) (by first | rfl | go_simp) (fun X hX => by have cc := (bxd.fr hX nbx).cell; go_simp) ?_
            simp only [Act.put, List.setIfInBounds_toArray, List.set_cons_zero, List.set_cons_succ]
            refine wpG_one fun K hK => ?_
            go_simp
            refine (kCp).mono ?_
            rintro e w4 ⟨tb', mb', rfl, ht1, hm1, hT4, hf4⟩
            refine hK _ _ (hf4.weak) ?_
            clear hK K
            iterate 1
              refine wpG_pure fun K hK => ?_
              go_simp
              refine hK _ ?_
              clear hK K
            refine wpG_one fun K hK => ?_
            go_simp
            have hfa := hf4.alloc (.cells #[.string S, .pointer (some ⟨tb', 0, none⟩)] 78)
            refine hK _ _ hfa.weak ?_
            clear hK K
            refine wpG_list rfl (fun _ _ h => h) fun K hK => ?_
            refine wpList_append1 60 78 (.agg #[.string ⟨#[]⟩, .pointer none]) 2 24 Try.underlying60 infoSn rfl (by decide) (by decide) rfl _ _ rfl 0 (.slice a2 k q2) k ((snL (M.s.take k) p2.sp).flatMap snC) rfl (owns_fr hsn hfa (fun _ _ h => by cases h)) [.string S, .pointer (some ⟨tb', 0, none⟩)] rfl (by intro u hu; simp at hu; rcases hu with rfl | rfl <;> rfl) w4.heap.size rfl (Blk.new w4 _ 78) (by omega) (by omega) ?_
            intro v' w5 hown hgrow hloc
            have hF5 : Fr (Value.slice a2 k q2).ownBlock.toList w3.drew w5 := hfa.weak.trans' (Fr.of_grown hgrow)
            refine hK _ (fun _ h => h) _ _ hF5 ?_
            clear hK K
            have hv6 : ∀ y, v'.ownBlock = some y → p2.r y = some 6 ∨ w4.heap.size ≤ y := fun y hy => by
              rcases hloc with e | e
              · rw [e] at hy; exact .inl (hr6 y hy)
              · rw [e] at hy; cases hy; exact .inr (by simp)
            have hgf : Fr (Value.slice a2 k q2).ownBlock.toList w4 w5 := ((Fr.refl [] w4).alloc _).weak.trans' (Fr.of_grown hgrow)
            have b5' := (hid.fr0 hf4).blk
            simp only at b5'
            rw [hsv2] at b5'
            have b5 := b5'.fr hgf nob
            have c5 := b5.cell
            have f5 := b5.frozen
            have l5 := b5.lt
            have hF5' := hF5
            obtain ⟨a5, q5, rfl, _⟩ := Sl.of_owns hown
            clear hgrow hloc hF5 hfa kCp hsn b5' bxd Bx
            iterate 2
              refine wpG_one fun K hK => ?_
              go_simp
              refine hK _ _ hF5' ?_
              clear hK K
            refine wpG_last fun K hK => ?_
            go_simp
            refine hK _ _ ?_
            clear hK K
            have hs6 := Fr.setCell (p := ⟨ob, 4, none⟩) (Fr.refl [ob] w5) (.inl (by simp)) (.slice a5 (k + 1) q5)
            have b6 := b5.setCell 4 (.slice a5 (k + 1) q5)
            have n5 : ∀ y, (Value.slice a5 (k + 1) q5).ownBlock = some y → y ≠ ob := fun y hy e => by
              rcases hv6 y hy with h1 | h1
              · rw [e, hid.ri] at h1; cases h1
              · have := (hid.fr0 hf4).blk.lt; omega
            have hf6 : Fr (ob :: (Value.slice a2 k q2).ownBlock.toList) w4 (w5.setCell ⟨ob, 4, none⟩ (.slice a5 (k + 1) q5)) := (hgf.mono (fun y hy _ => List.mem_cons_of_mem _ hy)).trans' (hs6.mono (fun y hy _ => by rw [List.mem_singleton.1 hy]; exact List.mem_cons_self))
            rw [hS.out] at hown
            have hown6 := owns_fr hown hs6 (fun y hy hm => n5 y hy (List.mem_singleton.1 hm))
            generalize w5.setCell ⟨ob, 4, none⟩ (.slice a5 (k + 1) q5) = w6 at *
            obtain ⟨p3, h6, hst6⟩ := hid.snapS (nm := nm) (l := l) (tb := tb') (mb := mb') (v := .slice a5 (k + 1) q5) (w' := w6) hf4 hT4 ht1 hm1 (by show w6.ownsRow _ _ _ _ ((M.s.take k).length + 1) _; rw [hBk.out]; exact hown6) hv6 b6 hf6 (fun y hy => by
              rcases List.mem_cons.1 hy with h1 | h1
              · exact .inl h1
              · exact .inr (.inl (hr6 y (Option.mem_toList.1 h1))))
            simp only at h6
            rw [← hx.out] at h6
            have hF6 : Fr [] w w6 := (hFx.trans0 hd3).trans hst6.fr (fun y hy hl => by have := hn y (mem_own.1 hy).2; omega)
            have hn6 : ∀ y, (p3.r y).isSome = true → w.heap.size ≤ y := fun y hy => by
              rcases hst6.new y hy with h1 | h1
              · exact hn y h1
              · have := hFx.size; have : w3.heap.size ≤ y := h1; omega
            clear hown hown6 b6 b5 c5 f5 l5 hgf hs6 hf6 hid bod hT4 hTx hst6 hv6 n5
            go_wp2
            go_roundw
            case rel => exact ⟨k + 1, p3, by omega, by go_num, h6, hn6, hF6⟩
            case measure => simp [intOf]; omega
          · have hke : k = ns := by omega
            subst hke
            rw [hend.out] at hI
            clear hat hnx hend hB0
            go_wp2
            go_ret
            exact ⟨ob, p2, rfl, hI, hn, hF⟩
      · intro k v w2 cnt2 hLk hmk hrg2 hcnt hf2 hsz2 hent
        obtain ⟨y, b, rfl, hyb, rfl⟩ := datM_some hmk
        have hyp : 0 < ng M y := Nat.pos_of_ne_zero fun e => by rw [hok.gone y e] at hyb; cases hyb
        have hy512 : y < 512 := by have := ng_lt hyp; have := hok.room; omega
        have hbl : b.length = M.z := by
          obtain ⟨b', hb', hl⟩ := hok.dat y hyp
          rw [hyb] at hb'; cases hb'; exact hl
        have hz1 := z_pos M
        have hz2 := z_le hok.toOkJ
        have hlt2 := hrg2.lt
        have hF2 : Fr [] w w2 := hF.trans hf2 (fun q hq hl => by have := List.mem_singleton.1 hq; omega)
        have hI2 := hI.fr hf2 (fun q hq => by rw [List.mem_singleton.1 hq]; exact hrn)
        have hd2 : Fr [] w2 w2.drew := (Fr.refl _ _).drew
        have hid := hI2.fr0 hd2
        have hsrc := (h.fr0 (hF2.trans0 hd2)).byt y b hyb
        obtain ⟨g, cap, hdv, _, _⟩ := owns_succ hsrc (by omega)
        rw [hdv] at hent hsrc
        have kY := CloneY_calls _ b w2.drew (SlF.of_owns hsrc) (by omega)
        have bod := hid.blk
        have hr5 := hid.rd
        have nob : ob ∉ [p'.db] := fun hm => by have := hid.ri; rw [List.mem_singleton.1 hm, hr5] at this; cases this
        have nrb : rb ∉ [p'.db] := fun hm => by rw [List.mem_singleton.1 hm, hr5] at hrn; cases hrn
        have hdbw : w.heap.size ≤ p'.db := hn _ (by rw [hr5]; rfl)
        have npd : p.db ∉ [p'.db] := fun hm => by have := List.mem_singleton.1 hm; omega
        have hzF := hF2.size
        have hbl3 : b.length ≤ 128 := by omega
        clear hI hI2 hrg hf2 hF hyp hbl hz1 hz2
        obtain ⟨bl, hleq'⟩ : ∃ bl, Hid (b.length = bl) := ⟨_, hidIt rfl⟩
        rw [hleq'.out] at hent hsrc kY hdv hbl3
        go_wp2_with fail
        refine wp_region_G (Fr [p'.db] w2.drew) [(true, 0), (true, 1), (true, 2), (true, 3), (true, 4), (true, 5), (false, 6), (false, 7)] (by as_aux_lemma => kernel_rfl) (by as_aux_lemma => kernel_rfl) (Fr.refl _ _) ?_
        simp only [inOrder, List.map_cons, List.map_nil, List.getD_cons_zero, List.getD_cons_succ]
        iterate 3
          refine wpG_pure fun K hK => ?_
          go_simp
          refine hK _ ?_
          clear hK K
        refine wpG_val (.map (some p'.db)) (by first | rfl | go_simp) (fun X hX => by have cc := (bod.fr hX nob).cell; go_simp) ?_
        simp only [Act.put, List.setIfInBounds_toArray, List.set_cons_zero, List.set_cons_succ]
        iterate 2
          refine wpG_pure fun K hK => ?_
          go_simp
          refine hK _ ?_
          clear hK K
        refine wpG_one fun K hK => ?_
        go_simp
        refine (kY).mono ?_
        rintro e w3 ⟨v3, rfl, hown3, hf3⟩
        refine hK _ _ (hf3.weak) ?_
        clear hK K
        have hI3 := hid.fr0 hf3
        obtain ⟨es3, clock3, hm3, hi3⟩ := hI3.dat
        obtain ⟨a3, q3, rfl, _⟩ := Sl.of_owns hown3
        refine wpG_list rfl (fun _ _ h => h) fun K hK => ?_
        refine wpList_mapUpdate_isM rfl _ _ _ 59 rfl Try.underlying59 keyInt hi3 p'.db rfl _ rfl _ rfl (keyH hy512) hm3 ?_
        intro es4 clock4 hi4
        have hf4 := putMap_fr w3 p'.db es4 clock4
        refine hK _ (fun _ h => h) _ _ (hf3.weak.trans' hf4) ?_
        clear hK K
        refine wpG_end ?_
        simp only [Act.put]
        have hvn : ∀ q, (Value.slice a3 bl q3).ownBlock = some q → w2.heap.size ≤ q := fun q hq => own_base hown3 q hq
        have hI4 := hI3.putD (x := y) (v := .slice a3 bl q3) (b := b) (mapAt_putMap (mapAt_lt hm3) _ _) hi4 hf4 (by rw [hleq'.out]; exact owns_base hown3 (Nat.zero_le _)) (fun q hq => hid.new (hvn q hq))
        rw [leftD_step hyb] at hI4
        have hrg4 := (hrg2.fr0 (hd2.trans0 hf3)).fr hf4 npd nrb
        have hF4 : Fr [] w (putMap w3 p'.db es4 clock4) := (hF2.trans0 (hd2.trans0 hf3)).trans hf4 (fun q hq hl => by have := List.mem_singleton.1 hq; omega)
        have hn4 : ∀ q, (((p'.putD y (.slice a3 bl q3)).r q).isSome = true) → w.heap.size ≤ q := fun q hq => by
          by_cases e : (Value.slice a3 bl q3).ownBlock = some q
          · have := hvn q e; omega
          · exact hn q (by simpa only [Pl.putD, if_neg e] using hq)
        have hrn4 : (p'.putD y (.slice a3 bl q3)).r rb = none := by
          have e : ¬ (Value.slice a3 bl q3).ownBlock = some rb := fun e => by have := hvn rb e; omega
          simp only [Pl.putD, if_neg e]
          exact hrn
        clear hid bod kY hown3 hI3 hi3 hm3 hi4 hsrc hent hf4 hf3 hd2 hrg2
        go_wp2
        go_roundw
        case rel =>
          exact ⟨_, _, _, hrg4, hI4, hn4, hrn4, hF4⟩
        case measure => rw [hrg4.left, hleft.out]; exact hcnt
end
end Go.Proofs.Ytilhbjjjmdnjmaa
