/-
  law10.made, where there are such bits.
-/
import Derived.Test.YtfmolbgfhchdkaaBitX
namespace Go.Proofs.Ytfmolbgfhchdkaa
open Go.RowKit Go.Maps

theorem RefB.keep {w w' : World} {S g : Nat} {u : Value} {l : List Bool} (h : RefB w (rb S g u) S g l) {b : Nat} {cs : List Value} {t : TypeId} (B : Blk w b cs t) (hcs : ∀ x ∈ cs, ∀ q, x ≠ .bool q) (hf : Fr [b] w w') : RefB w' (rb S g u) S g l := by
  obtain ⟨u1, h1, h2, h3⟩ := h.row
  exact ⟨⟨u1, h1, SlB.keep h2 B hcs hf, h3⟩, h.size, h.grain, h.len⟩
theorem SlB.frM {w w' : World} {v : Value} {l : List Bool} (h : SlB w v l) {mb : Nat} {x : Array MapEntry × Nat} (hm : mapAt w mb = some x) (hf : Fr [mb] w w') : SlB w' v l := by
  obtain ⟨a, cap, rfl, h1, h2, hc⟩ := h
  refine ⟨a, cap, rfl, h1, h2, ?_⟩
  cases l with
  | nil => exact .inl rfl
  | cons y l =>
    rcases hc with he | ⟨b', off, rfl, hb, hc⟩
    · simp at he
    · refine SlC.fr (.inr ⟨b', off, rfl, hb, hc⟩) hf fun p hp hmm => ?_
      cases hp
      have hbb : b' = mb := by simpa using hmm
      subst hbb
      have h0 := hc 0 (.bool y) (by simp)
      obtain ⟨es, c⟩ := x
      simp [World.cell?, mapAt_some.1 hm] at h0
theorem SlB.frT {w w' : World} {v : Value} {l l' : List Bool} {tb mb S g : Nat} (h : SlB w v l) (hW : BitW w tb mb S g l') (hf : Fr [tb, mb] w w') : SlB w' v l := by
  obtain ⟨a, cap, rfl, h1, h2, hc⟩ := h
  refine ⟨a, cap, rfl, h1, h2, ?_⟩
  cases l with
  | nil => exact .inl rfl
  | cons y l =>
    rcases hc with he | ⟨b', off, rfl, hb, hc⟩
    · simp at he
    · refine SlC.fr (.inr ⟨b', off, rfl, hb, hc⟩) hf fun p hp hmm => ?_
      cases hp
      have h0 := hc 0 (.bool y) (by simp)
      rcases List.mem_cons.1 hmm with hbb | hbb
      · have hbb : b' = tb := hbb
        subst hbb
        rw [Nat.add_zero, hW.blk.cell off] at h0
        have := List.mem_of_getElem? h0
        simp at this
      · have hbb : b' = mb := by simpa using hbb
        subst hbb
        obtain ⟨es, c, hm, _⟩ := hW.map
        simp [World.cell?, mapAt_some.1 hm] at h0
theorem RefB.frT {w w' : World} {v : Value} {l l' : List Bool} {tb mb S g S' g' : Nat} (h : RefB w v S g l) (hW : BitW w tb mb S' g' l') (hf : Fr [tb, mb] w w') : RefB w' v S g l := by
  obtain ⟨u1, h1, h2, h3⟩ := h.row
  exact ⟨⟨u1, h1, h2.frT hW hf, h3⟩, h.size, h.grain, h.len⟩
theorem fewS_len {s : Int} {l : List Op3} (h : fewS s l = true) : l.length ≤ 60 := by
  unfold fewS at h
  simp only [Bool.and_eq_true, decide_eq_true_eq] at h
  exact h.2.1
set_option maxRecDepth 100000 in
set_option maxHeartbeats 4000000 in
theorem made_yes (s g : Int) (v : Value) (l : List Op3) (w : World) (h : okNew s g = true) (hv : SlP w v l) (hn : fewS s l = true) (hgood : ∀ o ∈ l, goodOp o) : Calls Try.prog 10 #[.int .i64 s, .int .i64 g, v] w (madePost s g l w) := by
  have hs1 : 0 ≤ s ∧ s ≤ 4096 := by simp [okNew, okSec] at h; exact h.1
  have hp : pow2 g = true := by simp [okNew] at h; exact h.2
  have hg := pow2_le hp
  obtain ⟨S, rfl⟩ := Int.eq_ofNat_of_zero_le hs1.1
  obtain ⟨G, rfl⟩ := Int.eq_ofNat_of_zero_le (by omega : 0 ≤ g)
  have key := fun w => New_yes (S : Int) (G : Int) w h
  simp only [Int.toNat_natCast] at key
  have hl60 := fewS_len hn
  have Hrun : Hid (stOf (S : Int) (G : Int) l = runS G (S, List.replicate (gran S G) false) l) := hidIt (by unfold stOf; simp)
  have Hlen : ∀ k, Hid ((runS G (S, List.replicate (gran S G) false) (l.take k)).1 ≤ 4096 ∧ (runS G (S, List.replicate (gran S G) false) (l.take k)).2.length = gran (runS G (S, List.replicate (gran S G) false) (l.take k)).1 G) := fun k => hidIt (runS_len (l.take k) (S, List.replicate (gran S G) false) (by show S ≤ 4096; omega) (by simp))
  obtain ⟨av, cv, rfl, _, _, _⟩ := hv.open
  go_enter Try.func10, Try.ntmps10
  go_wp2_with fail
  refine (key _).mono ?_
  rintro e w1 ⟨tb, mb, rfl, ht, hm, hW, hf1⟩
  have B7 : Blk w1 w.heap.size [.int .i64 0, .int .i64 0, .slice none 0 0] 28 := (Blk.new w [_, _, _] _).fr0 hf1
  have hs1z := hf1.size
  simp only [World.size_alloc] at ht hm hs1z
  have hWlt1 := hW.lt
  go_wp2_with fail
  refine (rNew_yes S G _ (by omega) hp).mono ?_
  rintro e w2 ⟨u, rfl, hown, hf2⟩
  unfold rb
  have hokV := okV.of_owns hown
  have hsl : SlB w2 u (List.replicate (gran S G) false) := SlF.of_owns (base := w1.heap.size) (e := 4) (size := 1) (by rw [List.length_replicate]; exact hown)
  obtain ⟨au, cu, rfl, _, _, _⟩ := Sl.of_owns hown
  have hs2z := hf2.size
  replace B7 := B7.fr0 hf2
  replace hW := hW.fr0 hf2
  have b7 := B7.cell
  have f7 := B7.frozen
  have l7 := B7.lt
  have hF2 : Fr [] w w2 := (((Fr.refl _ w).alloc _).trans0 hf1).trans0 hf2
  clear hf1 hf2
  have hv3 := (hv.fr0 hF2).fr0 ((Fr.refl _ _).alloc (.cells #[.int .i64 S, .int .i64 G, .slice au (gran S G) cu] 28))
  go_wp2_with fail
  refine (few_calls (S : Int) _ l _ hv3).mono ?_
  rintro e w3 ⟨rfl, hf3⟩
  rw [hn]
  have hfa := ((Fr.refl [] w2).alloc (.cells #[.int .i64 S, .int .i64 G, .slice au (gran S G) cu] 28)).trans0 hf3
  have B11 := (Blk.new w2 [.int .i64 S, .int .i64 G, .slice au (gran S G) cu] 28).fr0 hf3
  replace B7 := B7.fr0 hfa
  replace hW := hW.fr0 hfa
  replace hsl := SlF.fr0 hsl hfa
  have hF3 := hF2.trans0 hfa
  have hR3 : RefB w3 (rb S G (.slice au (gran S G) cu)) S G (List.replicate (gran S G) false) := ⟨⟨_, rfl, hsl, hokV⟩, by omega, hp, by simp⟩
  clear hf3 hF2 hv3 key hown hfa hsl b7 f7 l7
  go_wp2_with fail
  go_loopw [48] (fun i wr => ∃ (k S1 : Nat) (l1 : List Bool) (u1 : Value), k ≤ l.length ∧ i = .int .i64 k ∧ (S1, l1) = runS G (S, List.replicate (gran S G) false) (l.take k) ∧ BitW wr tb mb S1 G l1 ∧ RefB wr (rb S1 G u1) S1 G l1 ∧
    Blk wr w2.heap.size [.int .i64 S1, .int .i64 G, u1] 28 ∧ Blk wr w.heap.size [.int .i64 0, .int .i64 0, .slice none 0 0] 28 ∧ Fr [] w wr) (fun i _ => l.length - (intOf i).toNat)
  case atStart => exact ⟨0, S, _, _, Nat.zero_le _, rfl, rfl, hW, hR3, B11, B7, hF3⟩
  case round =>
    clear hW hR3 B11 B7 hF3
    obtain ⟨k, S1, l1, u1, hk, rfl, Hst, hW, hR, B11, B7, hF⟩ := hrel
    replace Hst := hidIt Hst
    obtain ⟨x1, y1, a1, n1, c1, he1⟩ := hR.some
    have hu1 : u1 = .slice a1 n1 c1 := by
      have := (Value.agg.inj he1)
      simp at this
      exact this.2.2
    subst hu1
    have hsz := hF.size
    have l11 := B11.lt
    have l7 := B7.lt
    have hWlt := hW.lt
    by_cases hlt : k < l.length
    · obtain ⟨b, off, rfl, hb, c0, c1', c2⟩ := SlP.at (hv.fr0 hF) hlt
      have hge := hgood _ (List.mem_of_getElem? (getD_some z3 hlt))
      have Hnx : Hid (runS G (S, List.replicate (gran S G) false) (l.take (k + 1)) = (doS G (S1, l1) (l.getD k z3)).1) := hidIt (by rw [runS_succ _ _ _ _ hlt, ← Hst.out])
      generalize l.getD k z3 = o at *
      obtain ⟨p, q, r⟩ := o
      simp only at c0 c1' c2
      have B14 := Blk.new wr [.int .i64 p, .int .i64 q, .int .i64 r] 24
      have hfa := (Fr.refl [] wr).alloc (.cells #[.int .i64 p, .int .i64 q, .int .i64 r] 24)
      have keyB := does_calls tb mb S1 G l1 p q r _ (hW.fr0 hfa) hge
      have keyR := fun W h => rDo_calls S1 G (.slice a1 n1 c1) l1 p q r W h hge
      have hRa := hR.fr0 hfa
      have B11a := B11.fr0 hfa
      have B7a := B7.fr0 hfa
      have hWa := hW.fr0 hfa
      unfold rb at keyR
      generalize doS G (S1, l1) (p, q, r) = d at keyB keyR Hnx
      go_wp2_with fail
      refine keyB.mono ?_
      rintro e w4 ⟨rfl, hW4, hf4⟩
      have B14b := B14.fr hf4 (by simp; omega)
      have B11b := B11a.fr hf4 (by simp; omega)
      have B7b := B7a.fr hf4 (by simp; omega)
      have hR4 := hRa.frT hWa hf4
      have hF4 : Fr [] w w4 := (hF.trans0 hfa).trans hf4 (fun x hx hl => by simp at hx; omega)
      have b14 := B14b.cell
      have b11 := B11b.cell
      have l14 := B14b.lt
      have l11b := B11b.lt
      clear keyB hfa hW hR B11 B7 hWa hRa B11a B7a c0 c1' c2
      unfold rb at hR4
      go_wp2_with fail
      refine (keyR _ hR4).mono ?_
      rintro e w5 ⟨u5, rfl, hR5, hf5⟩
      obtain ⟨x5, y5, a5, n5, c5, he5⟩ := hR5.some
      have hu5 : u5 = .slice a5 n5 c5 := by
        have := (Value.agg.inj he5)
        simp at this
        exact this.2.2
      subst hu5
      have B11c := B11b.fr0 hf5
      have B7c := B7b.fr0 hf5
      have hW5 := hW4.fr0 hf5
      have hF5 := hF4.trans0 hf5
      have b11 := B11c.cell
      have f11 := B11c.frozen
      have l11c := B11c.lt
      clear keyR hf5 hf4 hF4 hW4 hR4 B11b B7b B14 B14b b14 l14
      go_wp2
      go_roundw
      case rel =>
        have hfs := Fr.set3 w5 w2.heap.size (.int .i64 d.1.1) (.int .i64 G) (.slice a5 n5 c5)
        refine ⟨k + 1, d.1.1, d.1.2, .slice a5 n5 c5, by omega, by go_num, by rw [Hnx.out], ?_, ?_, ?_, ?_, ?_⟩
        · exact ((hW5.fr hfs (by simp; omega) (by simp; omega)).fr0 ((Fr.refl _ _).alloc _))
        · exact RefB.fr0 (RefB.keep hR5 B11c noB hfs) ((Fr.refl _ _).alloc _)
        · exact (((B11c.setCell 0 _).setCell 1 _).setCell 2 _).alloc _
        · exact (B7c.fr hfs (by simp; omega)).alloc _
        · exact ((hF5.trans1 hfs (by omega))).alloc _
      case measure => simp [intOf]; omega
    · have hke : k = l.length := by omega
      have HE : Hid ((S1, l1) = stOf (S : Int) (G : Int) l) := hidIt (by rw [Hrun.out, Hst.out, hke, List.take_length])
      have b11 := B11.cell
      have b7 := B7.cell
      have f7 := B7.frozen
      clear hke Hst
      go_wp2_with fail
      refine wp_region_still_tail 3 follows (by as_aux_lemma => kernel_rfl) ?_
      simp only [List.take_succ_cons, List.take_zero, List.drop_succ_cons, List.drop_zero]
      change wpStill _ _ (World.drew _) _ _ _
      iterate 3 still_step
      refine wpStill_nil ?_
      change wpList _ _ _ _ _ (World.drew _)
      go_wp2
      have hfs := Fr.set3 wr w.heap.size (.int .i64 S1) (.int .i64 G) (.slice a1 n1 c1)
      exact bodyPost_ret (v := .tuple #[.pointer (some ⟨tb, 0, none⟩), rb S1 G (.slice a1 n1 c1), .bool true]) (by simp [results, Try.results10, go_sem, rb, b7]) rfl
        ⟨tb, mb, _, rfl, by rw [← HE.out]; exact (hW.fr hfs (by simp; omega) (by simp; omega)).fr0 (Fr.refl _ _).drew, by rw [← HE.out]; exact RefB.fr0 (RefB.keep hR B7 noB hfs) (Fr.refl _ _).drew, by omega, by omega, (hF.trans1 hfs (Nat.le_refl _)).drew⟩
end Go.Proofs.Ytfmolbgfhchdkaa
