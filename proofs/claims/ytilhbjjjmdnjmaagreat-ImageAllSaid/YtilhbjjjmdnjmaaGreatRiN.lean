/-
  The document's image: Do.
-/
import Derived.Test.YtilhbjjjmdnjmaaGreatRiM
import Derived.Test.YtilhbjjjmdnjmaaGreatHeldY
namespace Go.Proofs.YtilhbjjjmdnjmaaGreat
open Go.RowKit Go.Maps
attribute [local go_sem] cells_str store_str len_str

/-- what stands in Do's own boxes -/
structure BoxO (S : Nat → Prop) (w wr : World) (n : Nat) (vc vs vd : Value) (R : RIm) (oc : List Value) : Prop where
  box : Blk wr n [.int .i64 (R.mn : Int), .int .i64 (R.rm : Int), vc, vs, vd] 36
  op : Blk wr (n + 1) oc 42
  res : Blk wr (n + 2) [.int .i64 0, .int .i64 0, .slice none 0 0, .slice none 0 0, .slice none 0 0] 36
  ri : RiW S wr vc vs vd R
  fr : Fr [] w wr
theorem BoxO.keep {S : Nat → Prop} {w wr w' : World} {n : Nat} {vc vs vd : Value} {R : RIm} {oc : List Value} (h : BoxO S w wr n vc vs vd R oc) (hf : Fr [] wr w') : BoxO S w w' n vc vs vd R oc := ⟨h.box.fr0 hf, h.op.fr0 hf, h.res.fr0 hf, h.ri.fr0 hf, h.fr.trans0 hf⟩
/-- the box has another image -/
theorem BoxO.put {S : Nat → Prop} {w wr : World} {n : Nat} {vc vs vd vc' vs' vd' : Value} {R R' : RIm} {oc : List Value} (h : BoxO S w wr n vc vs vd R oc) (hn : w.heap.size ≤ n) (hS : ¬ S n) (h' : RiW S wr vc' vs' vd' R') :
    BoxO S w (((((wr.setCell ⟨n, 0, none⟩ (.int .i64 (R'.mn : Int))).setCell ⟨n, 1, none⟩ (.int .i64 (R'.rm : Int))).setCell ⟨n, 2, none⟩ vc').setCell ⟨n, 3, none⟩ vs').setCell ⟨n, 4, none⟩ vd') n vc' vs' vd' R' oc := by
  have hB := ((((h.box.setCell 0 (.int .i64 (R'.mn : Int))).setCell 1 (.int .i64 (R'.rm : Int))).setCell 2 vc').setCell 3 vs').setCell 4 vd'
  have hf : Fr [n] wr (((((wr.setCell ⟨n, 0, none⟩ (.int .i64 (R'.mn : Int))).setCell ⟨n, 1, none⟩ (.int .i64 (R'.rm : Int))).setCell ⟨n, 2, none⟩ vc').setCell ⟨n, 3, none⟩ vs').setCell ⟨n, 4, none⟩ vd') :=
    (((((Fr.refl [n] wr).setCell (p := ⟨n, 0, none⟩) (.inl (by simp)) _).setCell (p := ⟨n, 1, none⟩) (.inl (by simp)) _).setCell (p := ⟨n, 2, none⟩) (.inl (by simp)) _).setCell (p := ⟨n, 3, none⟩) (.inl (by simp)) _).setCell (p := ⟨n, 4, none⟩) (.inl (by simp)) _
  refine ⟨hB, h.op.fr hf (by simp), h.res.fr hf (by simp), h'.frS hf (fun k hk => by rw [List.mem_singleton.1 hk]; exact hS), h.fr.trans hf (fun x hx hl => by have := List.mem_singleton.1 hx; omega)⟩
/-- the box has other cells alone -/
theorem BoxO.putC {S : Nat → Prop} {w wr : World} {n : Nat} {vc vs vd vc' : Value} {R R' : RIm} {oc : List Value} (h : BoxO S w wr n vc vs vd R oc) (hn : w.heap.size ≤ n) (hS : ¬ S n) (h' : RiW S wr vc' vs vd R') (h1 : R'.mn = R.mn) (h2 : R'.rm = R.rm) :
    BoxO S w (wr.setCell ⟨n, 2, none⟩ vc') n vc' vs vd R' oc := by
  have hB := h.box.setCell 2 vc'
  have hf : Fr [n] wr (wr.setCell ⟨n, 2, none⟩ vc') := (Fr.refl [n] wr).setCell (p := ⟨n, 2, none⟩) (.inl (by simp)) _
  refine ⟨?_, h.op.fr hf (by simp), h.res.fr hf (by simp), h'.frS hf (fun k hk => by rw [List.mem_singleton.1 hk]; exact hS), h.fr.trans hf (fun x hx hl => by have := List.mem_singleton.1 hx; omega)⟩
  rw [h1, h2]
  exact hB
/-- the result: another image, what was read, and a code -/
def rdoPost (S : Nat → Prop) (w : World) (R : RIm) (o : OpI) (bel : List By) (e : Ending) (w' : World) : Prop := ∃ vc' vs' vd', e = .returned (.tuple #[riV (rdoE R o bel).2 vc' vs' vd', strL (rdoR R o), .int .i64 (rdoE R o bel).1]) ∧ RiW S w' vc' vs' vd' (rdoE R o bel).2 ∧ Fr [] w w'
theorem BoxO.ret {S T : Nat → Prop} {w wr : World} {n : Nat} {vc vs vd : Value} {R0 R : RIm} {oc : List Value} (h : BoxO S w wr n vc vs vd R oc) (hn : w.heap.size ≤ n) (hS : ¬ S (n + 2)) (hT : ∀ k, S k → T k) {o : OpI} {bel : List By} {r : Int × RIm} (hr : rdoE R0 o bel = r) (hR : r.2 = R) {t : By} (ht : rdoR R0 o = t) :
    rdoPost T w R0 o bel (.returned (.tuple #[.agg #[.int .i64 (R.mn : Int), .int .i64 (R.rm : Int), vc, vs, vd], strL t, .int .i64 r.1])) (((((wr.setCell ⟨n + 2, 0, none⟩ (.int .i64 (R.mn : Int))).setCell ⟨n + 2, 1, none⟩ (.int .i64 (R.rm : Int))).setCell ⟨n + 2, 2, none⟩ vc).setCell ⟨n + 2, 3, none⟩ vs).setCell ⟨n + 2, 4, none⟩ vd) := by
  have hf : Fr [n + 2] wr (((((wr.setCell ⟨n + 2, 0, none⟩ (.int .i64 (R.mn : Int))).setCell ⟨n + 2, 1, none⟩ (.int .i64 (R.rm : Int))).setCell ⟨n + 2, 2, none⟩ vc).setCell ⟨n + 2, 3, none⟩ vs).setCell ⟨n + 2, 4, none⟩ vd) :=
    (((((Fr.refl [n + 2] wr).setCell (p := ⟨n + 2, 0, none⟩) (.inl (by simp)) _).setCell (p := ⟨n + 2, 1, none⟩) (.inl (by simp)) _).setCell (p := ⟨n + 2, 2, none⟩) (.inl (by simp)) _).setCell (p := ⟨n + 2, 3, none⟩) (.inl (by simp)) _).setCell (p := ⟨n + 2, 4, none⟩) (.inl (by simp)) _
  subst hr hR ht
  exact ⟨vc, vs, vd, rfl, (h.ri.frS hf (fun k hk => by rw [List.mem_singleton.1 hk]; exact hS)).mono hT, h.fr.trans hf (fun x hx hl => by have := List.mem_singleton.1 hx; omega)⟩
section
variable {S : Nat → Prop} {vc vs vd : Value} {R : RIm}
set_option maxRecDepth 100000 in
set_option maxHeartbeats 6400000 in
theorem rDo_calls (o : OpI) (vb u : Value) (bel : List By) (w : World) (h : RiW S w vc vs vd R) (hS : ∀ k, w.heap.size ≤ k → S k) (hvb : SlY w vb o.b) (hnm : o.nm.length ≤ maxLen) (hu : SlT w u bel) (huo : okV u) (hul : ∀ s ∈ bel, s.length ≤ maxLen) (hd9 : R.d.length + 256 ≤ 1000000) :
    Calls Tryz.prog 10 #[riV R vc vs vd, opiV o vb, u] w (rdoPost S w R o bel) := by
  obtain ⟨va, vcap, rfl, hbl0, hbl1, hclr⟩ := hvb.open
  clear hclr
  obtain ⟨ua, ucap, rfl, huc, hclr⟩ := hu.open
  clear hclr
  obtain ⟨ok, ox, olo, ob, nm⟩ := o
  simp only at hnm hvb hbl0 ⊢
  have hbl := Nat.le_trans hbl0 hbl1
  clear hbl0 hbl1
  obtain ⟨ac, cc, as_, cs, ad, cd, rfl, rfl, rfl, hcc, hcs, hcd⟩ := h.open
  have hcl := h.ok.cl
  have hm8 := h.ok.m8
  have hmp := h.ok.mp
  obtain ⟨n, hn⟩ : ∃ n, n = w.heap.size := ⟨_, rfl⟩
  obtain ⟨S', hS'⟩ : ∃ S' : Nat → Prop, S' = fun k => S k ∧ k ≠ n ∧ k ≠ n + 1 ∧ k ≠ n + 2 := ⟨_, rfl⟩
  have hnew : ∀ W : World, n + 3 ≤ W.heap.size → ∀ k, W.heap.size ≤ k → S' k := fun W hW k hk => by rw [hS']; exact ⟨hS k (by omega), by omega, by omega, by omega⟩
  have hSn : ¬ S' n := by rw [hS']; rintro ⟨_, h1, _⟩; exact h1 rfl
  have hSn2 : ¬ S' (n + 2) := by rw [hS']; rintro ⟨_, _, _, h1⟩; exact h1 rfl
  have hST : ∀ k, S' k → S k := by rw [hS']; exact fun k h => h.1
  have h0 : RiW S' w (.slice ac R.c.length cc) (.slice as_ R.s.length cs) (.slice ad R.d.length cd) R := h.old.mono (fun k hk => by rw [hS']; exact ⟨hk.1, by omega, by omega, by omega⟩)
  clear hS'
  have hfa := (Fr.refl [] w).alloc (.cells #[.int .i64 (R.mn : Int), .int .i64 (R.rm : Int), .slice ac R.c.length cc, .slice as_ R.s.length cs, .slice ad R.d.length cd] 36)
  have B0 := Blk.new w [.int .i64 (R.mn : Int), .int .i64 (R.rm : Int), .slice ac R.c.length cc, .slice as_ R.s.length cs, .slice ad R.d.length cd] 36
  have B1 := Blk.new' (w := w.alloc (.cells #[.int .i64 (R.mn : Int), .int .i64 (R.rm : Int), .slice ac R.c.length cc, .slice as_ R.s.length cs, .slice ad R.d.length cd] 36)) (n := w.heap.size + 1) (by simp) [.int .i64 ok, .int .i64 ox, .int .i64 olo, .slice va ob.length vcap, strL nm] 42
  replace hfa := hfa.alloc (.cells #[.int .i64 ok, .int .i64 ox, .int .i64 olo, .slice va ob.length vcap, strL nm] 42)
  replace B0 := B0.alloc (.cells #[.int .i64 ok, .int .i64 ox, .int .i64 olo, .slice va ob.length vcap, strL nm] 42)
  have B2 := Blk.new' (w := (w.alloc (.cells #[.int .i64 (R.mn : Int), .int .i64 (R.rm : Int), .slice ac R.c.length cc, .slice as_ R.s.length cs, .slice ad R.d.length cd] 36)).alloc (.cells #[.int .i64 ok, .int .i64 ox, .int .i64 olo, .slice va ob.length vcap, strL nm] 42)) (n := w.heap.size + 2) (by simp) [.int .i64 0, .int .i64 0, .slice none 0 0, .slice none 0 0, .slice none 0 0] 36
  replace hfa := hfa.alloc (.cells #[.int .i64 0, .int .i64 0, .slice none 0 0, .slice none 0 0, .slice none 0 0] 36)
  replace B0 := B0.alloc (.cells #[.int .i64 0, .int .i64 0, .slice none 0 0, .slice none 0 0, .slice none 0 0] 36)
  replace B1 := B1.alloc (.cells #[.int .i64 0, .int .i64 0, .slice none 0 0, .slice none 0 0, .slice none 0 0] 36)
  have hz : (((w.alloc (.cells #[.int .i64 (R.mn : Int), .int .i64 (R.rm : Int), .slice ac R.c.length cc, .slice as_ R.s.length cs, .slice ad R.d.length cd] 36)).alloc (.cells #[.int .i64 ok, .int .i64 ox, .int .i64 olo, .slice va ob.length vcap, strL nm] 42)).alloc (.cells #[.int .i64 0, .int .i64 0, .slice none 0 0, .slice none 0 0, .slice none 0 0] 36)).heap.size = w.heap.size + 3 := by simp
  generalize hw1 : ((w.alloc (.cells #[.int .i64 (R.mn : Int), .int .i64 (R.rm : Int), .slice ac R.c.length cc, .slice as_ R.s.length cs, .slice ad R.d.length cd] 36)).alloc (.cells #[.int .i64 ok, .int .i64 ox, .int .i64 olo, .slice va ob.length vcap, strL nm] 42)).alloc (.cells #[.int .i64 0, .int .i64 0, .slice none 0 0, .slice none 0 0, .slice none 0 0] 36) = w1 at *
  rw [hn] at hnew hSn hSn2
  clear hn n
  have HB : BoxO S' w w1 w.heap.size (.slice ac R.c.length cc) (.slice as_ R.s.length cs) (.slice ad R.d.length cd) R [.int .i64 ok, .int .i64 ox, .int .i64 olo, .slice va ob.length vcap, strL nm] := ⟨B0, B1, B2, h0.fr0 hfa, hfa⟩
  have hu1 := SlF.fr0 hu hfa
  have hv1 := slY_fr0 hvb hfa
  have c0 := B0.cell
  have c1 := B1.cell
  have hfin := fun W vcX vsX vdX RX (hb : BoxO S' w W w.heap.size vcX vsX vdX RX [.int .i64 ok, .int .i64 ox, .int .i64 olo, .slice va ob.length vcap, strL nm]) (r : Int × RIm) (hr : rdoE R ⟨ok, ox, olo, ob, nm⟩ bel = r) (hR : r.2 = RX) (t : By) (ht : rdoR R ⟨ok, ox, olo, ob, nm⟩ = t) => hb.ret (T := S) (Nat.le_refl _) hSn2 hST hr hR ht
  clear B0 B1 B2 h h0 hvb hu hfa
  unfold riV opiV at *
  go_enter Tryz.func10, Tryz.ntmps10
  by_cases k0 : ok = 0
  · subst k0
    go_wp2_with fail
    try rw [hw1]
    refine (rRead_calls ox olo _ HB.ri).mono ?_
    rintro e w2 ⟨rfl, hf2⟩
    have HB2 := HB.keep hf2
    have hp := hfin _ _ _ _ _ HB2 (rinside R ox olo, R) rfl rfl (if rinside R ox olo = 0 then rread R ox.toNat olo.toNat else []) (by unfold rdoR; simp)
    have d0 := HB2.box.cell
    have d2 := HB2.res.cell
    have g2 := HB2.res.frozen
    have l2 := HB2.res.lt
    generalize (if rinside R ox olo = 0 then rread R ox.toNat olo.toNat else []) = rr at *
    generalize rinside R ox olo = ii at *
    have he := hidIt hp
    clear hp hfin HB HB2 c0 c1 hw1
    go_wp2
    refine bodyPost_ret (v := .tuple #[.agg #[.int .i64 (R.mn : Int), .int .i64 (R.rm : Int), .slice ac R.c.length cc, .slice as_ R.s.length cs, .slice ad R.d.length cd], strL rr, .int .i64 ii]) (by simp [results, Tryz.results10, go_sem, d2]) rfl ?_
    have := he.out
    simpa using this
  by_cases k1 : ok = 1
  case pos =>
    subst k1
    have hdE : rdoE R ⟨1, ox, olo, ob, nm⟩ bel = rwriteE false R ox ob bel := rfl
    have hdR : rdoR R ⟨1, ox, olo, ob, nm⟩ = [] := rfl
    have hcv := conv_str hv1
    go_wp2_with fail
    try rw [hw1]
    refine (rWrite_calls false ox ob (.slice ua bel.length ucap) bel _ HB.ri (hnew _ (by omega)) hbl hu1 huo hul hd9).mono ?_
    rintro e w2 ⟨vc2, vs2, vd2, rfl, hr2, hf2⟩
    have HB3 := (HB.keep hf2).put (Nat.le_refl _) hSn hr2
    have e0 := (HB.keep hf2).box.cell
    have f0 := (HB.keep hf2).box.frozen
    have m0 := (HB.keep hf2).box.lt
    obtain ⟨a2, cc2, as2, cs2, ad2, cd2, rfl, rfl, rfl, _⟩ := hr2.open
    unfold riV
    have hp := hfin _ _ _ _ _ HB3 _ hdE rfl [] hdR
    have d0 := HB3.box.cell
    have d2 := HB3.res.cell
    have g2 := HB3.res.frozen
    have l2 := HB3.res.lt
    clear hdE hdR
    have he := hidIt hp
    clear hp hfin HB HB3 c0 c1 hw1 hr2 hul hu1 hv1 hnm hbl huo huc hnew hS hST hSn hSn2
    generalize rwriteE false R ox ob bel = r at *
    generalize r.2.c.length = lc at *
    generalize r.2.s.length = ls at *
    generalize r.2.d.length = ld at *
    generalize r.2.mn = mn2 at *
    generalize r.2.rm = rm2 at *
    generalize r.1 = code at *
    go_wp2
    refine bodyPost_ret (v := .tuple #[.agg #[.int .i64 (mn2 : Int), .int .i64 (rm2 : Int), .slice a2 lc cc2, .slice as2 ls cs2, .slice ad2 ld cd2], .string ⟨#[]⟩, .int .i64 code]) (by simp [results, Tryz.results10, go_sem, d2]) rfl ?_
    have := he.out
    rw [show strL [] = Value.string ⟨#[]⟩ from rfl] at this
    simpa using this
  by_cases k3 : ok = 3
  case pos =>
    subst k3
    have hdE : rdoE R ⟨3, ox, olo, ob, nm⟩ bel = rdiscE R ox olo := rfl
    have hdR : rdoR R ⟨3, ox, olo, ob, nm⟩ = [] := rfl
    go_wp2_with fail
    try rw [hw1]
    refine (rDisc_calls ox olo _ HB.ri (hnew _ (by omega))).mono ?_
    rintro e w2 ⟨vc2, vs2, vd2, rfl, hr2, hf2⟩
    have HB3 := (HB.keep hf2).put (Nat.le_refl _) hSn hr2
    have e0 := (HB.keep hf2).box.cell
    have f0 := (HB.keep hf2).box.frozen
    have m0 := (HB.keep hf2).box.lt
    obtain ⟨a2, cc2, as2, cs2, ad2, cd2, rfl, rfl, rfl, _⟩ := hr2.open
    unfold riV
    have hp := hfin _ _ _ _ _ HB3 _ hdE rfl [] hdR
    have d0 := HB3.box.cell
    have d2 := HB3.res.cell
    have g2 := HB3.res.frozen
    have l2 := HB3.res.lt
    clear hdE hdR
    have he := hidIt hp
    clear hp hfin HB HB3 c0 c1 hw1 hr2 hul hu1 hv1 hnm hbl huo huc hnew hS hST hSn hSn2
    generalize rdiscE R ox olo = r at *
    generalize r.2.c.length = lc at *
    generalize r.2.s.length = ls at *
    generalize r.2.d.length = ld at *
    generalize r.2.mn = mn2 at *
    generalize r.2.rm = rm2 at *
    generalize r.1 = code at *
    go_wp2
    refine bodyPost_ret (v := .tuple #[.agg #[.int .i64 (mn2 : Int), .int .i64 (rm2 : Int), .slice a2 lc cc2, .slice as2 ls cs2, .slice ad2 ld cd2], .string ⟨#[]⟩, .int .i64 code]) (by simp [results, Tryz.results10, go_sem, d2]) rfl ?_
    have := he.out
    rw [show strL [] = Value.string ⟨#[]⟩ from rfl] at this
    simpa using this
  by_cases k5 : ok = 5
  case pos =>
    subst k5
    have hdE : rdoE R ⟨5, ox, olo, ob, nm⟩ bel = rsnapE R 5 nm := rfl
    have hdR : rdoR R ⟨5, ox, olo, ob, nm⟩ = [] := rfl
    go_wp2_with fail
    try rw [hw1]
    refine (rSnaps_calls ⟨5, ox, olo, ob, nm⟩ (.slice va ob.length vcap) _ HB.ri (hnew _ (by omega)) ⟨_, _, _, rfl⟩ hnm).mono ?_
    rintro e w2 ⟨vc2, vs2, vd2, rfl, hr2, hf2⟩
    have HB3 := (HB.keep hf2).put (Nat.le_refl _) hSn hr2
    have e0 := (HB.keep hf2).box.cell
    have f0 := (HB.keep hf2).box.frozen
    have m0 := (HB.keep hf2).box.lt
    obtain ⟨a2, cc2, as2, cs2, ad2, cd2, rfl, rfl, rfl, _⟩ := hr2.open
    unfold riV
    have hp := hfin _ _ _ _ _ HB3 _ hdE rfl [] hdR
    have d0 := HB3.box.cell
    have d2 := HB3.res.cell
    have g2 := HB3.res.frozen
    have l2 := HB3.res.lt
    clear hdE hdR
    have he := hidIt hp
    clear hp hfin HB HB3 c0 c1 hw1 hr2 hul hu1 hv1 hnm hbl huo huc hnew hS hST hSn hSn2
    generalize rsnapE R 5 nm = r at *
    generalize r.2.c.length = lc at *
    generalize r.2.s.length = ls at *
    generalize r.2.d.length = ld at *
    generalize r.2.mn = mn2 at *
    generalize r.2.rm = rm2 at *
    generalize r.1 = code at *
    go_wp2
    refine bodyPost_ret (v := .tuple #[.agg #[.int .i64 (mn2 : Int), .int .i64 (rm2 : Int), .slice a2 lc cc2, .slice as2 ls cs2, .slice ad2 ld cd2], .string ⟨#[]⟩, .int .i64 code]) (by simp [results, Tryz.results10, go_sem, d2]) rfl ?_
    have := he.out
    rw [show strL [] = Value.string ⟨#[]⟩ from rfl] at this
    simpa using this
  by_cases k6 : ok = 6
  case pos =>
    subst k6
    have hdE : rdoE R ⟨6, ox, olo, ob, nm⟩ bel = rsnapE R 6 nm := rfl
    have hdR : rdoR R ⟨6, ox, olo, ob, nm⟩ = [] := rfl
    go_wp2_with fail
    try rw [hw1]
    refine (rSnaps_calls ⟨6, ox, olo, ob, nm⟩ (.slice va ob.length vcap) _ HB.ri (hnew _ (by omega)) ⟨_, _, _, rfl⟩ hnm).mono ?_
    rintro e w2 ⟨vc2, vs2, vd2, rfl, hr2, hf2⟩
    have HB3 := (HB.keep hf2).put (Nat.le_refl _) hSn hr2
    have e0 := (HB.keep hf2).box.cell
    have f0 := (HB.keep hf2).box.frozen
    have m0 := (HB.keep hf2).box.lt
    obtain ⟨a2, cc2, as2, cs2, ad2, cd2, rfl, rfl, rfl, _⟩ := hr2.open
    unfold riV
    have hp := hfin _ _ _ _ _ HB3 _ hdE rfl [] hdR
    have d0 := HB3.box.cell
    have d2 := HB3.res.cell
    have g2 := HB3.res.frozen
    have l2 := HB3.res.lt
    clear hdE hdR
    have he := hidIt hp
    clear hp hfin HB HB3 c0 c1 hw1 hr2 hul hu1 hv1 hnm hbl huo huc hnew hS hST hSn hSn2
    generalize rsnapE R 6 nm = r at *
    generalize r.2.c.length = lc at *
    generalize r.2.s.length = ls at *
    generalize r.2.d.length = ld at *
    generalize r.2.mn = mn2 at *
    generalize r.2.rm = rm2 at *
    generalize r.1 = code at *
    go_wp2
    refine bodyPost_ret (v := .tuple #[.agg #[.int .i64 (mn2 : Int), .int .i64 (rm2 : Int), .slice a2 lc cc2, .slice as2 ls cs2, .slice ad2 ld cd2], .string ⟨#[]⟩, .int .i64 code]) (by simp [results, Tryz.results10, go_sem, d2]) rfl ?_
    have := he.out
    rw [show strL [] = Value.string ⟨#[]⟩ from rfl] at this
    simpa using this
  by_cases k7 : ok = 7
  case pos =>
    subst k7
    have hdE : rdoE R ⟨7, ox, olo, ob, nm⟩ bel = rsnapE R 7 nm := rfl
    have hdR : rdoR R ⟨7, ox, olo, ob, nm⟩ = [] := rfl
    go_wp2_with fail
    try rw [hw1]
    refine (rSnaps_calls ⟨7, ox, olo, ob, nm⟩ (.slice va ob.length vcap) _ HB.ri (hnew _ (by omega)) ⟨_, _, _, rfl⟩ hnm).mono ?_
    rintro e w2 ⟨vc2, vs2, vd2, rfl, hr2, hf2⟩
    have HB3 := (HB.keep hf2).put (Nat.le_refl _) hSn hr2
    have e0 := (HB.keep hf2).box.cell
    have f0 := (HB.keep hf2).box.frozen
    have m0 := (HB.keep hf2).box.lt
    obtain ⟨a2, cc2, as2, cs2, ad2, cd2, rfl, rfl, rfl, _⟩ := hr2.open
    unfold riV
    have hp := hfin _ _ _ _ _ HB3 _ hdE rfl [] hdR
    have d0 := HB3.box.cell
    have d2 := HB3.res.cell
    have g2 := HB3.res.frozen
    have l2 := HB3.res.lt
    clear hdE hdR
    have he := hidIt hp
    clear hp hfin HB HB3 c0 c1 hw1 hr2 hul hu1 hv1 hnm hbl huo huc hnew hS hST hSn hSn2
    generalize rsnapE R 7 nm = r at *
    generalize r.2.c.length = lc at *
    generalize r.2.s.length = ls at *
    generalize r.2.d.length = ld at *
    generalize r.2.mn = mn2 at *
    generalize r.2.rm = rm2 at *
    generalize r.1 = code at *
    go_wp2
    refine bodyPost_ret (v := .tuple #[.agg #[.int .i64 (mn2 : Int), .int .i64 (rm2 : Int), .slice a2 lc cc2, .slice as2 ls cs2, .slice ad2 ld cd2], .string ⟨#[]⟩, .int .i64 code]) (by simp [results, Tryz.results10, go_sem, d2]) rfl ?_
    have := he.out
    rw [show strL [] = Value.string ⟨#[]⟩ from rfl] at this
    simpa using this
  by_cases k2 : ok = 2
  case pos =>
    subst k2
    go_wp2_with fail
    try rw [hw1]
    refine (rInside_calls ox olo _ HB.ri).mono ?_
    rintro e w2 ⟨rfl, hf2⟩
    have HB2 := HB.keep hf2
    by_cases hin : rinside R ox olo = 0
    case neg =>
      have hdE : rdoE R ⟨2, ox, olo, ob, nm⟩ bel = (rinside R ox olo, R) := by
        show rzeroE R ox olo bel = _
        unfold rzeroE
        rw [if_pos hin]
      have hp := hfin _ _ _ _ _ HB2 (rinside R ox olo, R) hdE rfl [] rfl
      have d0 := HB2.box.cell
      have d2 := HB2.res.cell
      have g2 := HB2.res.frozen
      have l2 := HB2.res.lt
      have hii : (rinside R ox olo == 0) = false := by simpa using hin
      clear hin hdE
      generalize rinside R ox olo = ii at *
      have he := hidIt hp
      clear hp hfin HB HB2 c0 c1 hw1
      go_wp2
      refine bodyPost_ret (v := .tuple #[.agg #[.int .i64 (R.mn : Int), .int .i64 (R.rm : Int), .slice ac R.c.length cc, .slice as_ R.s.length cs, .slice ad R.d.length cd], .string ⟨#[]⟩, .int .i64 ii]) (by simp [results, Tryz.results10, go_sem, d2]) rfl ?_
      have := he.out
      rw [show strL [] = Value.string ⟨#[]⟩ from rfl] at this
      simpa using this
    obtain ⟨a, m, rfl, rfl, hal⟩ := rinside_ok hin
    have hdE : rdoE R ⟨2, (a : Int), (m : Int), ob, nm⟩ bel = rwriteE true R (a : Int) (zBy (16 * m)) bel := by
      show rzeroE R (a : Int) (m : Int) bel = _
      unfold rzeroE
      rw [if_neg (by omega), Int.toNat_natCast]
    have hdR : rdoR R ⟨2, (a : Int), (m : Int), ob, nm⟩ = [] := rfl
    have hm2 : m ≤ 2048 := by
      have := Nat.mul_le_mul hm8 hcl
      omega
    rw [hin]
    obtain ⟨N, hN⟩ : ∃ N : Nat, Hid (N = 16 * m) := ⟨_, hidIt rfl⟩
    rw [← hN.out] at hdE
    have hN8 : N ≤ 32768 := by have := hN.out; omega
    have hmul : (16 : Int) * (m : Int) = (N : Int) := by have := hN.out; omega
    have hwN : IntKind.i64.wrap (N : Int) = (N : Int) := IntWalk.i64_in _ (by omega)
    have hdr := (Fr.refl [] w2).drew
    have HBd := HB2.keep hdr
    have hul2 := hul
    have hud := (SlF.fr0 hu1 hf2).fr0 hdr
    have hzd := Nat.le_trans HB2.res.lt hdr.size
    clear hin hal hu1 hv1 HB c0 c1
    go_wp2_with fail
    refine wp_region_Y 13 (fun X => Fr [] w2.drew X) [(true, 0), (true, 1), (true, 2), (true, 3), (true, 4), (true, 5), (true, 8), (false, 6), (true, 7), (false, 9), (true, 10), (true, 11), (true, 12)] [(true, 14)] (by as_aux_lemma => kernel_rfl) (by as_aux_lemma => kernel_rfl) (Fr.refl _ _) ?_
    simp only [inOrder, List.map_cons, List.map_nil, List.getD_cons_zero, List.getD_cons_succ]
    refine wpG_val (.agg #[.int .i64 (R.mn : Int), .int .i64 (R.rm : Int), .slice ac R.c.length cc, .slice as_ R.s.length cs, .slice ad R.d.length cd]) (by first | rfl | go_simp) (fun X hX => by have cc := (HBd.keep hX).box.cell; go_simp) ?_
    simp only [Act.put, List.setIfInBounds_toArray, List.set_cons_zero, List.set_cons_succ]
    iterate 1
      refine wpG_pure fun K hK => ?_
      go_simp
      refine hK _ ?_
      clear hK K
    refine wpG_val (.int .i64 (a : Int)) (by first | rfl | go_simp) (fun X hX => by have cc := (HBd.keep hX).op.cell; go_simp) ?_
    simp only [Act.put, List.setIfInBounds_toArray, List.set_cons_zero, List.set_cons_succ]
    iterate 1
      refine wpG_pure fun K hK => ?_
      go_simp
      refine hK _ ?_
      clear hK K
    refine wpG_val (.int .i64 (m : Int)) (by first | rfl | go_simp) (fun X hX => by have cc := (HBd.keep hX).op.cell; go_simp) ?_
    simp only [Act.put, List.setIfInBounds_toArray, List.set_cons_zero, List.set_cons_succ]
    iterate 2
      refine wpG_pure fun K hK => ?_
      go_simp
      refine hK _ ?_
      clear hK K
    obtain ⟨w3, hrun, hown, hg⟩ := makeY N w2.drew (by omega)
    have hf3 := (Fr.refl [] w2.drew).grown hg (fun x hx => by cases hx)
    have hzl : (zBy N).length = N := by simp [zBy]
    have hvz : SlY w3 (.slice (some ⟨w2.heap.size, 0, none⟩) N N) (zBy N) := SlF.of_owns (base := w2.drew.heap.size) (by rw [hzl]; exact hown)
    clear hown hg
    refine wpG_oneS fun K hK => ?_
    go_simp
    refine hK (fun X => Fr [] w3 X) (fun X h => hf3.trans0 h) _ _ (Fr.refl _ _) ?_
    clear hK K hrun
    refine wpG_val (strL (zBy N)) (by first | rfl | go_simp) (fun X hX => by have cc := conv_str (SlF.fr0 hvz hX); go_simp) ?_
    simp only [Act.put, List.setIfInBounds_toArray, List.set_cons_zero, List.set_cons_succ]
    have HB3 := HBd.keep hf3
    have hz3 := hf3.size
    refine wpG_oneS fun K hK => ?_
    go_simp
    refine (rWrite_calls true (a : Int) (zBy N) (.slice ua bel.length ucap) bel _ HB3.ri (hnew _ (by omega)) (by rw [hzl]; unfold maxLen; omega) (hud.fr0 hf3) huo hul2 hd9).mono ?_
    rintro e w4 ⟨vc2, vs2, vd2, rfl, hr2, hf4⟩
    refine hK (fun X => Fr [] w4 X) (fun X h => hf4.trans0 h) _ _ (Fr.refl _ _) ?_
    clear hK K
    have HB4 := HB3.keep hf4
    have HB5 := HB4.put (Nat.le_refl _) hSn hr2
    have e0 := HB4.box.cell
    have f0 := HB4.box.frozen
    have m0 := HB4.box.lt
    obtain ⟨a2, cc2, as2, cs2, ad2, cd2, rfl, rfl, rfl, _⟩ := hr2.open
    unfold riV
    have hp := hfin _ _ _ _ _ HB5 _ hdE rfl [] hdR
    have d0 := HB5.box.cell
    have d2 := HB5.res.cell
    have g2 := HB5.res.frozen
    have l2 := HB5.res.lt
    clear hdE hdR
    have he := hidIt hp
    clear hp hfin HB2 HBd HB3 HB4 HB5 hw1 hr2 hul hul2 hud hnm hbl huo huc hnew hS hST hSn hSn2 hvz
    generalize rwriteE true R (a : Int) (zBy N) bel = r at *
    generalize r.2.c.length = lc at *
    generalize r.2.s.length = ls at *
    generalize r.2.d.length = ld at *
    generalize r.2.mn = mn2 at *
    generalize r.2.rm = rm2 at *
    generalize r.1 = code at *
    iterate 3
      refine wpG_pure fun K hK => ?_
      go_simp
      refine hK _ ?_
      clear hK K
    refine wpG_cut fun K hK => ?_
    go_simp
    refine hK _ _ ?_
    clear hK K
    iterate 1
      refine wpG_pure fun K hK => ?_
      go_simp
      refine hK _ ?_
      clear hK K
    refine wpG_end ?_
    go_wp2
    refine bodyPost_ret (v := .tuple #[.agg #[.int .i64 (mn2 : Int), .int .i64 (rm2 : Int), .slice a2 lc cc2, .slice as2 ls cs2, .slice ad2 ld cd2], .string ⟨#[]⟩, .int .i64 code]) (by simp [results, Tryz.results10, go_sem, d2]) rfl ?_
    have := he.out
    rw [show strL [] = Value.string ⟨#[]⟩ from rfl] at this
    simpa using this
  by_cases k4 : ok = 4
  case pos =>
    subst k4
    have hdE : rdoE R ⟨4, ox, olo, ob, nm⟩ bel = rsizeE R olo := rfl
    have hdR : rdoR R ⟨4, ox, olo, ob, nm⟩ = [] := rfl
    by_cases hlo : 0 ≤ olo ∧ olo ≤ 256
    case neg =>
      have hp := hfin _ _ _ _ _ HB (1, R) (by rw [hdE]; unfold rsizeE; rw [if_neg hlo]) rfl [] hdR
      have d0 := HB.box.cell
      have d2 := HB.res.cell
      have g2 := HB.res.frozen
      have l2 := HB.res.lt
      have he := hidIt hp
      clear hp hfin HB hul hu1 hv1 hnm hbl huo huc hnew hS hST hSn hSn2 hdE hdR
      by_cases hneg : olo < 0
      · clear hlo
        go_wp2
        refine bodyPost_ret (v := .tuple #[.agg #[.int .i64 (R.mn : Int), .int .i64 (R.rm : Int), .slice ac R.c.length cc, .slice as_ R.s.length cs, .slice ad R.d.length cd], .string ⟨#[]⟩, .int .i64 1]) (by simp [results, Tryz.results10, go_sem, d2]) rfl ?_
        have := he.out
        subst hw1
        rw [show strL [] = Value.string ⟨#[]⟩ from rfl] at this
        simpa using this
      · have h256 : 256 < olo := by omega
        clear hlo
        go_wp2
        refine bodyPost_ret (v := .tuple #[.agg #[.int .i64 (R.mn : Int), .int .i64 (R.rm : Int), .slice ac R.c.length cc, .slice as_ R.s.length cs, .slice ad R.d.length cd], .string ⟨#[]⟩, .int .i64 1]) (by simp [results, Tryz.results10, go_sem, d2]) rfl ?_
        have := he.out
        subst hw1
        rw [show strL [] = Value.string ⟨#[]⟩ from rfl] at this
        simpa using this
    obtain ⟨m, rfl⟩ : ∃ m : Nat, olo = m := ⟨olo.toNat, by omega⟩
    have hm : m ≤ 256 := by omega
    have hdE' : rdoE R ⟨4, ox, (m : Int), ob, nm⟩ bel = (0, { R with c := R.c.take m ++ List.replicate (m - R.c.length) zRC }) := by
      rw [hdE]
      unfold rsizeE
      rw [if_pos (by omega)]
      simp
    obtain ⟨w2, hrun, hown, hg⟩ := makeC m w1 hm
    have hf2 := (Fr.refl [] w1).grown hg (fun x hx => by cases hx)
    have HB2 := HB.keep hf2
    have c2 := HB2.box.cell
    obtain ⟨w3, hcopy, hown3, hf3⟩ := copyC hown HB2.ri.c 3
    have hf23 : Fr [] w1 w3 := hf2.trans hf3 (fun x hx hl => by have := List.mem_singleton.1 hx; omega)
    have hlen : (R.c.take m ++ List.replicate (m - R.c.length) zRC).length = m := by simp; omega
    have hok3 := HB.ri.ok.resize hm
    have hz1 := HB.res.lt
    have hri3 : RiW S' w3 (.slice (some ⟨w1.heap.size, 0, none⟩) m m) (.slice as_ R.s.length cs) (.slice ad R.d.length cd) { R with c := R.c.take m ++ List.replicate (m - R.c.length) zRC } :=
      HB.ri.setC hf23 (RowW.of_owns (by rw [hlen]; exact hown3) (hnew _ (by omega))) hok3
    have HB3 := HB.keep hf23
    have e0 := HB3.box.cell
    have f0 := HB3.box.frozen
    have m0 := HB3.box.lt
    have HB4 := HB3.putC (Nat.le_refl _) hSn hri3 rfl rfl
    have hp := hfin _ _ _ _ _ HB4 _ hdE' rfl [] hdR
    have d0 := HB4.box.cell
    have d2 := HB4.res.cell
    have g2 := HB4.res.frozen
    have l2 := HB4.res.lt
    have he := hidIt hp
    clear hp hfin HB HB2 HB3 HB4 hdE hdR hdE' hul hu1 hv1 hnm hbl huo huc hnew hS hST hSn hSn2 hri3 hok3 hlen hown hown3 hg
    clear hz
    go_wp2_with fail
    try rw [hw1]
    clear hw1
    go_wp2
    refine bodyPost_ret (v := .tuple #[.agg #[.int .i64 (R.mn : Int), .int .i64 (R.rm : Int), .slice (some ⟨w1.heap.size, 0, none⟩) m m, .slice as_ R.s.length cs, .slice ad R.d.length cd], .string ⟨#[]⟩, .int .i64 0]) (by simp [results, Tryz.results10, go_sem, d2]) rfl ?_
    have := he.out
    rw [show strL [] = Value.string ⟨#[]⟩ from rfl] at this
    simpa using this
  have hdE : rdoE R ⟨ok, ox, olo, ob, nm⟩ bel = (0, R) := by unfold rdoE; simp [k0, k1, k2, k3, k4, k5, k6, k7]
  have hdR : rdoR R ⟨ok, ox, olo, ob, nm⟩ = [] := by unfold rdoR; simp [k0]
  have q0 : (ok == 0) = false := by simpa using k0
  have q1 : (ok == 1) = false := by simpa using k1
  have q2 : (ok == 2) = false := by simpa using k2
  have q3 : (ok == 3) = false := by simpa using k3
  have q4 : (ok == 4) = false := by simpa using k4
  have q5 : (ok == 5) = false := by simpa using k5
  have q6 : (ok == 6) = false := by simpa using k6
  have q7 : (ok == 7) = false := by simpa using k7
  have hp := hfin _ _ _ _ _ HB (0, R) hdE rfl [] hdR
  have d0 := HB.box.cell
  have d2 := HB.res.cell
  have g2 := HB.res.frozen
  have l2 := HB.res.lt
  have he := hidIt hp
  clear hp hfin HB hul hu1 hv1 hnm hbl huo huc hnew hS hST hSn hSn2 hdE hdR k0 k1 k2 k3 k4 k5 k6 k7
  go_wp2
  refine bodyPost_ret (v := .tuple #[.agg #[.int .i64 (R.mn : Int), .int .i64 (R.rm : Int), .slice ac R.c.length cc, .slice as_ R.s.length cs, .slice ad R.d.length cd], .string ⟨#[]⟩, .int .i64 0]) (by simp [results, Tryz.results10, go_sem, d2]) rfl ?_
  have := he.out
  subst hw1
  rw [show strL [] = Value.string ⟨#[]⟩ from rfl] at this
  simpa using this
end
end Go.Proofs.YtilhbjjjmdnjmaaGreat
