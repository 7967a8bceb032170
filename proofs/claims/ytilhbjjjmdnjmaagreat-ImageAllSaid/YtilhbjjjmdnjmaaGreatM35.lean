/-
  Package image: Snaps, Counts, New.
-/
import Derived.Test.YtilhbjjjmdnjmaaGreatM29
import Derived.Test.YtilhbjjjmdnjmaaGreatM21
namespace Go.Proofs.YtilhbjjjmdnjmaaGreat
open Go.RowKit Go.Maps
attribute [local go_sem] mapAt_alloc mapAt_setCell mapAt_drew mapAt_drewN

theorem infoTx : (Tryz.prog.info? 9).map (fun i => (i.zero, i.size, i.bytes)) = some (some (.string ⟨#[]⟩), 1, 16) := by kernel_rfl
def snapsPost (w : World) (M : Img) (e : Ending) (w' : World) : Prop := ∃ v, e = .returned v ∧ w'.ownsRow w.heap.size 9 1 v M.s.length ((M.s.map (·.1)).flatMap strC) ∧ Fr [] w w'
section
variable {ib : Nat} {p : Pl} {M : Img}
theorem take_names {s : List (By × List Slt)} {k : Nat} (hk : k < s.length) : (s.map (·.1)).take (k + 1) = (s.map (·.1)).take k ++ [(s.getD k zQ).1] := by
  have hl : k < (s.map (·.1)).length := by simpa using hk
  rw [List.take_succ_eq_append_getElem hl, List.getElem_map, List.getD_eq_getElem?_getD, List.getElem?_eq_getElem hk]
  rfl
set_option maxRecDepth 100000 in
set_option maxHeartbeats 1600000 in
theorem iSnaps_calls (w : World) (h : ImgW w ib p M) (hlen : M.s.length ≤ 8) : Calls Tryz.prog 36 #[.pointer (some ⟨ib, 0, none⟩)] w (snapsPost w M) := by
  have b0 := h.blk.cell
  obtain ⟨a, cap, hsv, _⟩ := Sl.of_owns h.sn
  obtain ⟨n, hn⟩ : ∃ n, Hid (n = M.s.length) := ⟨_, hidIt rfl⟩
  rw [hsv] at b0
  have hat : ∀ W, Fr [] w W → ∀ i, i < n → ∃ g, a = some ⟨g, 0, none⟩ ∧ g < W.heap.size ∧ W.cell? ⟨g, i * 2, none⟩ = some (strL (M.s.getD i zQ).1) ∧ W.cell? ⟨g, i * 2 + 1, none⟩ = some (.pointer (some ⟨(p.sp.getD i (0, 0)).1, 0, none⟩)) := fun W hW i hi => by
    obtain ⟨g, cap', hv, hg, _, c0, c1⟩ := (h.fr0 hW).snap_at (by rw [← hn.out]; exact hi)
    rw [hsv] at hv
    cases hv
    exact ⟨g, rfl, hg, c0, c1⟩
  have hnx : ∀ k, k < n → Hid ((M.s.map (·.1)).take (k + 1) = (M.s.map (·.1)).take k ++ [(M.s.getD k zQ).1]) := fun k hk => hidIt (take_names (by rw [← hn.out]; exact hk))
  have hend : Hid ((M.s.map (·.1)).take n = M.s.map (·.1)) := hidIt (by rw [hn.out, List.take_of_length_le (by simp)])
  unfold snapsPost
  rw [← hn.out] at b0 hlen ⊢
  clear hsv h
  generalize M.s.map (·.1) = ss at *
  go_enter Tryz.func36, Tryz.ntmps36
  go_wp2_with fail
  go_loopw [3, 5, 11] (fun v _ i wr => ∃ k : Nat, k ≤ n ∧ i = .int .i64 (k : Int) ∧ wr.ownsRow w.heap.size 9 1 v k ((ss.take k).flatMap strC) ∧ Fr [] w wr) (fun _ _ i _ => n - (intOf i).toNat)
  case atStart => exact ⟨0, Nat.zero_le _, rfl, World.ownsRow_nil _ _ _ _, Fr.refl _ _⟩
  case round =>
    obtain ⟨k, hk, rfl, ho, hF⟩ := hrel
    by_cases hlt : k < n
    · obtain ⟨g, rfl, hg, c0, c1⟩ := hat wr hF k hlt
      have hx := hnx k hlt
      generalize (M.s.getD k zQ).1 = x at *
      generalize (p.sp.getD k (0, 0)).1 = ts at *
      obtain ⟨S, hS⟩ : ∃ S, Hid (Value.string S = strL x) := ⟨⟨x.toArray⟩, hidIt rfl⟩
      rw [← hS.out] at c0
      obtain ⟨av, cv, rfl, _⟩ := Sl.of_owns ho
      have hz := hF.size
      clear hat hnx hend b0
      have hone : ∀ u ∈ [Value.string S], u.oneCell' = true := fun u hu => by rw [List.mem_singleton.1 hu]; rfl
      go_wp2_with (at_builtin; refine wpList_append1 25 9 _ 1 16 Tryz.underlying25 infoTx rfl (by decide) (by decide) rfl _ _ rfl w.heap.size _ _ _ rfl ((ho.alloc _).alloc _) [.string S] rfl hone (wr.heap.size + 1) rfl (Blk.new' (by simp) _ _) (by omega) (by simp; omega) ?_; intro v' w2 hown2 hgrow hloc)
      have hF2 : Fr [] w w2 := ((hF.alloc _).alloc _).grown hgrow (fun y hy => .inr (own_base ho y hy))
      rw [hS.out, show [strL x] = [x].flatMap strC from rfl, ← List.flatMap_append, ← hx.out] at hown2
      obtain ⟨a2, q2, rfl, _⟩ := Sl.of_owns hown2
      clear c0 c1 hgrow hloc
      go_wp2
      go_roundw
      case rel => exact ⟨k + 1, by omega, by go_num, hown2, hF2⟩
      case measure => simp [intOf]; omega
    · have hke : k = n := by omega
      subst hke
      rw [hend.out] at ho
      obtain ⟨av, cv, rfl, _⟩ := Sl.of_owns ho
      clear hat hnx hend
      go_wp2
      go_ret
      exact ⟨_, rfl, ho, hF⟩
set_option maxRecDepth 100000 in
set_option maxHeartbeats 800000 in
theorem iCounts_calls (w : World) (h : ImgW w ib p M) : Calls Tryz.prog 60 #[.pointer (some ⟨ib, 0, none⟩)] w (cCopyPost w M.n) := by
  have c := h.blk.cell
  have kC := cCopy_calls p.nb p.nv M.n w h.cnt
  clear h
  unfold cCopyPost at *
  go_enter Tryz.func60, Tryz.ntmps60
  go_wp2_with fail
  refine kC.mono ?_
  rintro e w1 ⟨nb, rv, rfl, hC, h1, h2, hf⟩
  go_wp2
  go_ret
  exact ⟨nb, rv, rfl, hC, h1, h2, hf⟩
end
/-! ### a new one -/
def newI (B n r : Nat) : Img := { B := B, t := List.replicate n zS, n := List.replicate r 0, d := fun _ => none, s := [] }
theorem newI_ok {B n r : Nat} (hB : B ≤ 3) (hn : n ≤ 256) (hr : r ≤ 512) : OkI (newI B n r) := by
  have h0 : ∀ s ∈ (newI B n r).t, s = zS := fun s hs => List.eq_of_mem_replicate hs
  have hc : ∀ h, cntT (newI B n r).t h = 0 := fun h => by
    have : ¬ 0 < cntT (newI B n r).t h := fun hp => by
      obtain ⟨s, hs, h1, _⟩ := cntT_pos.1 hp
      rw [h0 s hs] at h1
      simp [zS] at h1
    omega
  have hg : ∀ h, ng (newI B n r) h = 0 := fun h => by
    unfold ng newI
    simp only [List.getD_eq_getElem?_getD, List.getElem?_replicate]
    split <;> rfl
  refine ⟨⟨hB, by simp [newI, hn], by simp [newI, hr], fun s hs => by rw [h0 s hs]; rfl, fun p hp => by simp [newI] at hp, fun p hp => by simp [newI] at hp, fun h => ?_, fun h => by rw [hc]; omega, fun p hp => by simp [newI] at hp, fun h _ => rfl, fun h hp => by rw [hg] at hp; omega, fun p hp => by simp [newI] at hp, by simp [newI], by simp [newI]⟩, fun s hs h1 => by rw [h0 s hs] at h1; simp [zS] at h1⟩
  rw [hg]
  unfold refs
  rw [hc]
  rfl
theorem newI_free (B n r : Nat) : freeN (newI B n r).n = r := by
  unfold freeN newI
  simp [List.countP_replicate]
/-- an image without bytes, without snapshots -/
theorem ImgW.start {w : World} {ib tb mb nb db B : Nat} {nv : Value} {t : List Slt} {n : List Nat} {es : Array MapEntry} {clock : Nat} (hT : TabW w tb mb t) (hC : CntW w nb nv n) (hm : mapAt w db = some (es, clock)) (hi : IsM Tryz.prog 3 es clock (fun _ => none))
    (hB : Blk w ib [.int .i64 (B : Int), .pointer (some ⟨tb, 0, none⟩), .pointer (some ⟨nb, 0, none⟩), .map (some db), .slice none 0 0] 74) (hne : db ≠ mb) {b0 : Nat} (h1 : b0 ≤ tb) (h2 : b0 ≤ mb) (h3 : b0 ≤ nb) (h4 : ∀ k, nv.ownBlock = some k → b0 ≤ k) (h5 : b0 ≤ db) (h6 : b0 ≤ ib) :
    ∃ p, ImgW w ib p { B := B, t := t, n := n, d := fun _ => none, s := [] } ∧ (∀ k, (p.r k).isSome = true → b0 ≤ k) ∧ p.tb = tb ∧ p.nb = nb ∧ p.db = db ∧ p.sv = .slice none 0 0 := by
  obtain ⟨es1, c1, hm1, _⟩ := hT.map
  have e1 := mapAt_some.1 hm1
  have e2 := mapAt_some.1 hm
  have bt := hT.blk
  have bn := hC.blk
  have n1 : tb ≠ ib := fun e => by rw [e] at bt; have := bt.symm.trans hB; cases this
  have n2 : mb ≠ ib := fun e => by rw [e] at e1; have := e1.symm.trans hB; cases this
  have n3 : nb ≠ ib := fun e => by rw [e] at bn; have := bn.symm.trans hB; cases this
  have n4 : db ≠ ib := fun e => by rw [e] at e2; have := e2.symm.trans hB; cases this
  have n5 : mb ≠ tb := fun e => hT.ne e.symm
  have n6 : nb ≠ tb := fun e => by rw [e] at bn; have := bn.symm.trans bt; cases this
  have n7 : db ≠ tb := fun e => by rw [e] at e2; have := e2.symm.trans bt; cases this
  have n8 : nb ≠ mb := fun e => by rw [e] at bn; have := bn.symm.trans e1; cases this
  have n9 : db ≠ nb := fun e => by rw [e] at e2; have := e2.symm.trans bn; cases this
  have hrow : ∀ k, nv.ownBlock = some k → ∃ cur, w.heap[k]? = some (.cells cur 3 (0, 0)) := fun k hk => by
    rcases hC.row.2 with ⟨h, _⟩ | ⟨g, cap, cur, hv, _, hg, _⟩
    · rw [h] at hk; cases hk
    · rw [hv] at hk
      cases hk
      exact ⟨cur, hg⟩
  have m1 : ∀ k, nv.ownBlock = some k → k ≠ ib ∧ k ≠ tb ∧ k ≠ mb ∧ k ≠ nb ∧ k ≠ db := fun k hk => by
    obtain ⟨cur, hg⟩ := hrow k hk
    refine ⟨fun e => ?_, fun e => ?_, fun e => ?_, fun e => ?_, fun e => ?_⟩
    · rw [e] at hg; have := hg.symm.trans hB; cases this
    · rw [e] at hg; have := hg.symm.trans bt; cases this
    · rw [e] at hg; have := hg.symm.trans e1; cases this
    · rw [e] at hg; have := hg.symm.trans bn; cases this
    · rw [e] at hg; have := hg.symm.trans e2; cases this
  refine ⟨{ tb := tb, mb := mb, nb := nb, db := db, nv := nv, sv := .slice none 0 0, sp := [], dv := fun _ => .slice none 0 0, r := fun k => if k = ib then some 0 else if k = tb then some 1 else if k = mb then some 2 else if k = nb then some 3 else if nv.ownBlock = some k then some 4 else if k = db then some 5 else none }, ?_, ?_, rfl, rfl, rfl, rfl⟩
  · refine ⟨hB, hT, hC, ⟨es, clock, hm, ?_⟩, (fun _ _ h => by cases h), World.ownsRow_nil _ _ _ _, rfl, (fun i hi => by simp at hi), fun k hk => ?_, by simp, by simp [n1], by simp [n2, n5], by simp [n3, n6, n8], fun k hk => ?_, ?_, (fun k hk => by cases hk), (fun i hi => by simp at hi), (fun _ _ h => by cases h)⟩
    · have : (fun _ => none) = datM { B := B, t := t, n := n, d := fun _ => none, s := [] } { tb := tb, mb := mb, nb := nb, db := db, nv := nv, sv := .slice none 0 0, sp := [], dv := fun _ => .slice none 0 0, r := fun k => if k = ib then some 0 else if k = tb then some 1 else if k = mb then some 2 else if k = nb then some 3 else if nv.ownBlock = some k then some 4 else if k = db then some 5 else none } := by
        funext v
        cases v with
        | int q k => cases q <;> first | rfl | (rw [datM_int]; split <;> rfl)
        | _ => rfl
      rwa [this] at hi
    · by_cases x1 : k = ib
      · rw [x1]; exact hB.lt
      · by_cases x2 : k = tb
        · rw [x2]; exact bt.lt
        · by_cases x3 : k = mb
          · rw [x3]; exact hT.lt.2
          · by_cases x4 : k = nb
            · rw [x4]; exact bn.lt
            · by_cases x5 : nv.ownBlock = some k
              · obtain ⟨cur, hg⟩ := hrow k x5
                exact (Array.getElem?_eq_some_iff.1 hg).1
              · by_cases x6 : k = db
                · rw [x6]; exact mapAt_lt hm
                · simp [x1, x2, x3, x4, x5, x6] at hk
    · obtain ⟨a1, a2, a3, a4, _⟩ := m1 k hk
      simp only [a1, a2, a3, a4, if_false]
      rw [if_pos hk]
    · have : ¬ nv.ownBlock = some db := fun e => (m1 db e).2.2.2.2 rfl
      simp [n4, n7, hne, n9, this]
  · intro k hk
    by_cases x1 : k = ib
    · omega
    · by_cases x2 : k = tb
      · omega
      · by_cases x3 : k = mb
        · omega
        · by_cases x4 : k = nb
          · omega
          · by_cases x5 : nv.ownBlock = some k
            · exact h4 k x5
            · by_cases x6 : k = db
              · omega
              · simp [x1, x2, x3, x4, x5, x6] at hk
end Go.Proofs.YtilhbjjjmdnjmaaGreat

namespace Go.Proofs.YtilhbjjjmdnjmaaGreat
open Go.RowKit Go.Maps
attribute [local go_sem] mapAt_alloc mapAt_setCell mapAt_drew mapAt_drewN

def okSeat (B n r : Int) : Prop := (0 ≤ B ∧ B ≤ 3) ∧ (0 ≤ n ∧ n ≤ 256) ∧ (0 ≤ r ∧ r ≤ 512)
def newIPost (w : World) (B n r : Nat) (e : Ending) (w' : World) : Prop := ∃ ib p, e = .returned (.tuple #[.pointer (some ⟨ib, 0, none⟩), .int .i64 0]) ∧ ImgW w' ib p (newI B n r) ∧ (∀ k, (p.r k).isSome = true → w.heap.size ≤ k) ∧ Fr [] w w'
def noIPost (w : World) (e : Ending) (w' : World) : Prop := e = .returned (.tuple #[.pointer none, .int .i64 1]) ∧ Fr [] w w'
set_option maxRecDepth 100000 in
set_option maxHeartbeats 1600000 in
theorem iNew_no (B n r : Int) (w : World) (h : ¬ okSeat B n r) : Calls Tryz.prog 7 #[.int .i64 B, .int .i64 n, .int .i64 r] w (noIPost w) := by
  unfold okSeat at h
  unfold noIPost
  cases hs : okSize n with
  | false =>
    have kT := fun W => New_no n W hs
    by_cases hr : 0 ≤ r ∧ r ≤ 512
    · obtain ⟨m, rfl⟩ := Int.eq_ofNat_of_zero_le hr.1
      have kC := fun W => cNew_yes m W (by omega)
      clear h hs hr
      go_enter Tryz.func7, Tryz.ntmps7
      go_wp2_with fail
      refine (kT w).mono ?_
      rintro e w1 ⟨rfl, rfl⟩
      go_wp2_with fail
      refine (kC _).mono ?_
      rintro e w2 ⟨nb, rv, rfl, _, _, _, hf⟩
      clear kT kC
      go_wp2
      go_ret2
      exact ⟨rfl, hf⟩
    · have kC := fun W => cNew_no r W (by omega)
      clear h hs hr
      go_enter Tryz.func7, Tryz.ntmps7
      go_wp2_with fail
      refine (kT w).mono ?_
      rintro e w1 ⟨rfl, rfl⟩
      go_wp2_with fail
      refine (kC _).mono ?_
      rintro e w2 ⟨rfl, rfl⟩
      clear kT kC
      go_wp2
      go_ret2
      exact ⟨rfl, Fr.refl _ _⟩
  | true =>
    have hn : 0 ≤ n ∧ n ≤ 256 := by simpa [okSize] using hs
    have kT := fun W => New_yes n W hs
    by_cases hr : 0 ≤ r ∧ r ≤ 512
    · obtain ⟨m, rfl⟩ := Int.eq_ofNat_of_zero_le hr.1
      have kC := fun W => cNew_yes m W (by omega)
      have hB : B < 0 ∨ 3 < B := by omega
      clear h hs hr hn
      rcases hB with hB | hB
      · go_enter Tryz.func7, Tryz.ntmps7
        go_wp2_with fail
        refine (kT w).mono ?_
        rintro e w1 ⟨tb, mb, rfl, _, _, _, hf1⟩
        go_wp2_with fail
        refine (kC _).mono ?_
        rintro e w2 ⟨nb, rv, rfl, _, _, _, hf⟩
        clear kT kC
        go_wp2
        go_ret2
        exact ⟨rfl, hf1.trans0 hf⟩
      · have hB0 : ¬ B < 0 := by omega
        go_enter Tryz.func7, Tryz.ntmps7
        go_wp2_with fail
        refine (kT w).mono ?_
        rintro e w1 ⟨tb, mb, rfl, _, _, _, hf1⟩
        go_wp2_with fail
        refine (kC _).mono ?_
        rintro e w2 ⟨nb, rv, rfl, _, _, _, hf⟩
        clear kT kC
        go_wp2
        go_ret2
        exact ⟨rfl, hf1.trans0 hf⟩
    · have kC := fun W => cNew_no r W (by omega)
      clear h hs hr hn
      go_enter Tryz.func7, Tryz.ntmps7
      go_wp2_with fail
      refine (kT w).mono ?_
      rintro e w1 ⟨tb, mb, rfl, _, _, _, hf1⟩
      go_wp2_with fail
      refine (kC _).mono ?_
      rintro e w2 ⟨rfl, rfl⟩
      clear kT kC
      go_wp2
      go_ret2
      exact ⟨rfl, hf1⟩
set_option maxRecDepth 100000 in
set_option maxHeartbeats 1600000 in
theorem iNew_yes (B n r : Nat) (w : World) (h : okSeat B n r) : Calls Tryz.prog 7 #[.int .i64 (B : Int), .int .i64 (n : Int), .int .i64 (r : Int)] w (newIPost w B n r) := by
  obtain ⟨hB, hn, hr⟩ := h
  have kT := New_yes (n : Int) w (by simp [okSize]; omega)
  have kC := fun W => cNew_yes r W (by omega)
  have hmm := @run_makeMap Tryz.prog
  unfold newIPost
  rw [Int.toNat_natCast] at kT
  go_enter Tryz.func7, Tryz.ntmps7
  go_wp2_with fail
  refine kT.mono ?_
  rintro e w1 ⟨tb, mb, rfl, ht, hm, hT, hf1⟩
  go_wp2_with fail
  refine (kC _).mono ?_
  rintro e w2 ⟨nb, rv, rfl, hC, hnb, hrv, hf2⟩
  clear kT kC
  have z1 := hf1.size
  have z2 := hf2.size
  have hlt := hT.lt
  have hF := (hf1.trans0 hf2).alloc (.map #[] 0)
  have hF2 := hF.alloc (.cells #[.int .i64 (B : Int), .pointer (some ⟨tb, 0, none⟩), .pointer (some ⟨nb, 0, none⟩), .map (some w2.heap.size), .slice none 0 0] 74)
  have hfa := ((Fr.refl [] w2).alloc (.map #[] 0)).alloc (.cells #[.int .i64 (B : Int), .pointer (some ⟨tb, 0, none⟩), .pointer (some ⟨nb, 0, none⟩), .map (some w2.heap.size), .slice none 0 0] 74)
  obtain ⟨p, hI, hnew, _⟩ := ImgW.start (b0 := w.heap.size) ((hT.fr0 hf2).fr0 hfa) (hC.fr0 hfa) (db := w2.heap.size) (es := #[]) (clock := 0) (by rw [mapAt_alloc _ (by simp), mapAt_some]; exact heap_alloc_new w2 _) IsM.empty (ib := w2.heap.size + 1) (B := B) (Blk.new' (by simp) _ _) (by omega) ht hm (by omega) (fun k hk => by have := hrv k hk; omega) (by omega) (by omega)
  have HI := hidIt hI
  clear hI hT hC hfa
  go_wp2
  go_ret2
  exact ⟨_, p, rfl, HI.out, hnew, hF2⟩
end Go.Proofs.YtilhbjjjmdnjmaaGreat
