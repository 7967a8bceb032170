/-
  The document's image: snapshots.
-/
import Derived.Test.YtilhbjjjmdnjmaaGreatM59
import Derived.Test.YtilhbjjjmdnjmaaGreatM17
import Derived.Test.YtilhbjjjmdnjmaaGreatName4
namespace Go.Proofs.YtilhbjjjmdnjmaaGreat
open Go.RowKit Go.Maps
attribute [local go_sem] cells_str store_str len_str

theorem infoRS : (Tryz.prog.info? 88).map (fun i => (i.zero, i.size, i.bytes)) = some (some (.agg #[.string ⟨#[]⟩, .slice none 0 0]), 2, 40) := by kernel_rfl
theorem flatR_length (l : List ((By × List RCel) × Value)) : (l.flatMap rsnC).length = l.length * 2 := by
  induction l with
  | nil => rfl
  | cons x l ih => simp [ih]; omega
theorem ret5 {S T : Nat → Prop} {w wr : World} {m : Nat} {vc vs vd : Value} {R : RIm} (h : RiW S wr vc vs vd R) (hfr : Fr [] w wr) (hm : w.heap.size ≤ m) (hS : ¬ S m) (hT : ∀ k, S k → T k) {r : Int × RIm} (hr : r.2 = R) (code : Int) (hc : r.1 = code) :
    pairPost T w r (.returned (.tuple #[riV R vc vs vd, .int .i64 code])) (((((wr.setCell ⟨m, 0, none⟩ (.int .i64 (R.mn : Int))).setCell ⟨m, 1, none⟩ (.int .i64 (R.rm : Int))).setCell ⟨m, 2, none⟩ vc).setCell ⟨m, 3, none⟩ vs).setCell ⟨m, 4, none⟩ vd) := by
  have hf : Fr [m] wr (((((wr.setCell ⟨m, 0, none⟩ (.int .i64 (R.mn : Int))).setCell ⟨m, 1, none⟩ (.int .i64 (R.rm : Int))).setCell ⟨m, 2, none⟩ vc).setCell ⟨m, 3, none⟩ vs).setCell ⟨m, 4, none⟩ vd) :=
    (((((Fr.refl [m] wr).setCell (p := ⟨m, 0, none⟩) (.inl (by simp)) _).setCell (p := ⟨m, 1, none⟩) (.inl (by simp)) _).setCell (p := ⟨m, 2, none⟩) (.inl (by simp)) _).setCell (p := ⟨m, 3, none⟩) (.inl (by simp)) _).setCell (p := ⟨m, 4, none⟩) (.inl (by simp)) _
  subst hr hc
  exact ⟨vc, vs, vd, rfl, (h.frS hf (fun k hk => by rw [List.mem_singleton.1 hk]; exact hS)).mono hT, hfr.trans hf (fun x hx hl => by have := List.mem_singleton.1 hx; omega)⟩
section
variable {R : RIm}
theorem OkR.snap (h : OkR R) (nm : By) (h8 : R.s.length < 8) : OkR { R with s := R.s ++ [(nm, R.c)] } := by
  refine ⟨h.mp, h.m8, h.rm, h.cl, by show (R.s ++ [(nm, R.c)]).length ≤ 8; simp; omega, fun q hq => ?_, h.dl, h.ids, fun q hq => ?_, h.dz⟩
  · rcases List.mem_append.1 hq with hq | hq
    · exact h.ss q hq
    · rw [List.mem_singleton.1 hq]; exact h.cl
  · rcases List.mem_append.1 hq with hq | hq
    · exact h.ids2 q hq
    · rw [List.mem_singleton.1 hq]; exact h.ids
theorem OkR.apply (h : OkR R) {k : Nat} (hk : k < R.s.length) : OkR { R with c := (R.s.getD k zRQ).2 } := by
  have hm : R.s.getD k zRQ ∈ R.s := by rw [List.getD_eq_getElem?_getD, List.getElem?_eq_getElem hk]; exact List.getElem_mem _
  exact ⟨h.mp, h.m8, h.rm, h.ss _ hm, h.sl, h.ss, h.dl, h.ids2 _ hm, h.ids2, h.dz⟩
theorem OkR.drop (h : OkR R) (k : Nat) : OkR { R with s := R.s.eraseIdx k } := by
  have hsub := List.eraseIdx_sublist R.s k
  exact ⟨h.mp, h.m8, h.rm, h.cl, Nat.le_trans hsub.length_le h.sl, fun q hq => h.ss q (hsub.subset hq), h.dl, h.ids, fun q hq => h.ids2 q (hsub.subset hq), h.dz⟩
theorem rfind_lt {s : List (By × List RCel)} {nm : By} {k : Nat} (h : rfindI s nm = some k) : k < s.length := by
  unfold rfindI at h
  rw [List.findIdx?_eq_some_iff_getElem] at h
  exact h.1
end
section
variable {S : Nat → Prop} {vc vs vd : Value} {R : RIm}
set_option maxRecDepth 100000 in
set_option maxHeartbeats 6400000 in
theorem rSnaps_calls (o : OpI) (vb : Value) (w : World) (h : RiW S w vc vs vd R) (hS : ∀ k, w.heap.size ≤ k → S k) (hvb : ∃ a n c, vb = .slice a n c) (hnm : o.nm.length ≤ maxLen) :
    Calls Tryz.prog 34 #[riV R vc vs vd, opiV o vb] w (pairPost S w (rsnapE R o.k o.nm)) := by
  obtain ⟨va, vn, vcap, rfl⟩ := hvb
  obtain ⟨ok, ox, olo, ob, nm⟩ := o
  simp only at hnm ⊢
  obtain ⟨ac, cc, as_, cs, ad, cd, rfl, rfl, rfl, hcc, hcs, hcd⟩ := h.open
  have hcl := h.ok.cl
  have hsl := h.ok.sl
  obtain ⟨sy, hsy⟩ : ∃ s, Value.string s = strL nm := ⟨_, rfl⟩
  have HY := hidIt hsy
  unfold opiV
  simp only
  rw [← hsy]
  clear hsy
  obtain ⟨n, hn⟩ : ∃ n, n = w.heap.size := ⟨_, rfl⟩
  obtain ⟨S', hS'⟩ : ∃ S' : Nat → Prop, S' = fun k => S k ∧ k ≠ n ∧ k ≠ n + 1 ∧ k ≠ n + 2 := ⟨_, rfl⟩
  have hnew : ∀ W : World, n + 3 ≤ W.heap.size → ∀ k, W.heap.size ≤ k → S' k := fun W hW k hk => by rw [hS']; exact ⟨hS k (by omega), by omega, by omega, by omega⟩
  have hSn : ¬ S' n := by rw [hS']; rintro ⟨_, h1, _⟩; exact h1 rfl
  have hSn2 : ¬ S' (n + 2) := by rw [hS']; rintro ⟨_, _, _, h1⟩; exact h1 rfl
  have hST : ∀ k, S' k → S k := by rw [hS']; exact fun k h => h.1
  have h0 : RiW S' w (.slice ac R.c.length cc) (.slice as_ R.s.length cs) (.slice ad R.d.length cd) R := h.old.mono (fun k hk => by rw [hS']; exact ⟨hk.1, by omega, by omega, by omega⟩)
  clear hS'
  have hfa := (Fr.refl [] w).alloc (.cells #[.int .i64 (R.mn : Int), .int .i64 (R.rm : Int), .slice ac R.c.length cc, .slice as_ R.s.length cs, .slice ad R.d.length cd] 36)
  have B0 := Blk.new w [.int .i64 (R.mn : Int), .int .i64 (R.rm : Int), .slice ac R.c.length cc, .slice as_ R.s.length cs, .slice ad R.d.length cd] 36
  have B1 := Blk.new' (w := w.alloc (.cells #[.int .i64 (R.mn : Int), .int .i64 (R.rm : Int), .slice ac R.c.length cc, .slice as_ R.s.length cs, .slice ad R.d.length cd] 36)) (n := w.heap.size + 1) (by simp) [.int .i64 ok, .int .i64 ox, .int .i64 olo, .slice va vn vcap, .string sy] 42
  replace hfa := hfa.alloc (.cells #[.int .i64 ok, .int .i64 ox, .int .i64 olo, .slice va vn vcap, .string sy] 42)
  replace B0 := B0.alloc (.cells #[.int .i64 ok, .int .i64 ox, .int .i64 olo, .slice va vn vcap, .string sy] 42)
  have B2 := Blk.new' (w := (w.alloc (.cells #[.int .i64 (R.mn : Int), .int .i64 (R.rm : Int), .slice ac R.c.length cc, .slice as_ R.s.length cs, .slice ad R.d.length cd] 36)).alloc (.cells #[.int .i64 ok, .int .i64 ox, .int .i64 olo, .slice va vn vcap, .string sy] 42)) (n := w.heap.size + 2) (by simp) [.int .i64 0, .int .i64 0, .slice none 0 0, .slice none 0 0, .slice none 0 0] 36
  replace hfa := hfa.alloc (.cells #[.int .i64 0, .int .i64 0, .slice none 0 0, .slice none 0 0, .slice none 0 0] 36)
  replace B0 := B0.alloc (.cells #[.int .i64 0, .int .i64 0, .slice none 0 0, .slice none 0 0, .slice none 0 0] 36)
  replace B1 := B1.alloc (.cells #[.int .i64 0, .int .i64 0, .slice none 0 0, .slice none 0 0, .slice none 0 0] 36)
  have hz : (((w.alloc (.cells #[.int .i64 (R.mn : Int), .int .i64 (R.rm : Int), .slice ac R.c.length cc, .slice as_ R.s.length cs, .slice ad R.d.length cd] 36)).alloc (.cells #[.int .i64 ok, .int .i64 ox, .int .i64 olo, .slice va vn vcap, .string sy] 42)).alloc (.cells #[.int .i64 0, .int .i64 0, .slice none 0 0, .slice none 0 0, .slice none 0 0] 36)).heap.size = w.heap.size + 3 := by simp
  generalize hw1 : ((w.alloc (.cells #[.int .i64 (R.mn : Int), .int .i64 (R.rm : Int), .slice ac R.c.length cc, .slice as_ R.s.length cs, .slice ad R.d.length cd] 36)).alloc (.cells #[.int .i64 ok, .int .i64 ox, .int .i64 olo, .slice va vn vcap, .string sy] 42)).alloc (.cells #[.int .i64 0, .int .i64 0, .slice none 0 0, .slice none 0 0, .slice none 0 0] 36) = w1 at *
  have h1 := h0.fr0 hfa
  rw [hn] at hnew hSn hSn2
  clear hn n
  have hA : Hid (ok = 5 → okName nm = false → rsnapE R ok nm = (1, R)) := hidIt (fun e1 e2 => by unfold rsnapE; rw [if_pos e1, if_pos e2])
  have hB : Hid (ok = 5 → okName nm = true → ((rfindI R.s nm).isSome = true ∨ 8 ≤ R.s.length) → rsnapE R ok nm = (123, R)) := hidIt (fun e1 e2 e3 => by unfold rsnapE; rw [if_pos e1, if_neg (by simp [e2]), if_pos e3])
  have hC : Hid (ok = 5 → okName nm = true → ¬ ((rfindI R.s nm).isSome = true ∨ 8 ≤ R.s.length) → rsnapE R ok nm = (0, { R with s := R.s ++ [(nm, R.c)] })) := hidIt (fun e1 e2 e3 => by unfold rsnapE; rw [if_pos e1, if_neg (by simp [e2]), if_neg e3])
  have hD : Hid (ok ≠ 5 → rfindI R.s nm = none → rsnapE R ok nm = (122, R)) := hidIt (fun e1 e2 => by unfold rsnapE; rw [if_neg e1, e2])
  have hE6 : Hid (∀ i, ok = 6 → rfindI R.s nm = some i → rsnapE R ok nm = (0, { R with c := (R.s.getD i zRQ).2 })) := hidIt (fun i e1 e2 => by unfold rsnapE; rw [if_neg (by omega), e2]; simp only; rw [if_pos e1])
  have hE7 : Hid (∀ i, ok ≠ 5 → ok ≠ 6 → rfindI R.s nm = some i → rsnapE R ok nm = (0, { R with s := R.s.eraseIdx i })) := hidIt (fun i e1 e1' e2 => by unfold rsnapE; rw [if_neg e1, e2]; simp only; rw [if_neg e1'])
  have kF := fun W h => rFind_calls (S := S') (vc := .slice ac R.c.length cc) (vs := .slice as_ R.s.length cs) (vd := .slice ad R.d.length cd) (R := R) nm W h
  have hfl : ∀ k, rfindI R.s nm = some k → k < R.s.length := fun k hk => rfind_lt hk
  have hokS := h0.ok
  generalize rsnapE R ok nm = res at *
  have hend := fun W vcX vsX vdX RX (hb : RiW S' W vcX vsX vdX RX) (hfr : Fr [] w W) code (hr : res = (code, RX)) => ret5 (T := S) (m := w.heap.size + 2) (r := res) hb hfr (by omega) hSn2 hST (by rw [hr]) code (by rw [hr])
  have c0 := B0.cell
  have c1 := B1.cell
  clear h h0 hS
  unfold riV at *
  go_enter Tryz.func34, Tryz.ntmps34
  go_wp2_with fail
  try rw [hw1]
  rw [HY.out]
  refine (kF _ h1).mono ?_
  rintro e w2 ⟨rfl, hf2⟩
  have h2 := h1.fr0 hf2
  have B02 := B0.fr0 hf2
  have B12 := B1.fr0 hf2
  have B22 := B2.fr0 hf2
  have hF2 := hfa.trans0 hf2
  have hz2 : w.heap.size + 3 ≤ w2.heap.size := by have := hf2.size; omega
  clear kF c0 c1 hw1 h1 B0 B1 B2 hfa hf2 hz
  have c0 := B02.cell
  have c1 := B12.cell
  have c2 := B22.cell
  have g2 := B22.frozen
  have l2 := B22.lt
  obtain ⟨rows, hr1, hr2, hr3⟩ := h2.s
  have hrl : rows.length = R.s.length := by rw [← hr1, List.length_map]
  have hone : ∀ r ∈ rows, ∀ u ∈ rsnC r, u.oneCell' = true := fun r hr u hu => by
    obtain ⟨q1, q2, hq, _⟩ := SlF.open (hr3 r hr).sl
    simp only [rsnC, List.mem_cons, List.not_mem_nil, or_false] at hu
    rcases hu with rfl | rfl
    · rfl
    · rw [hq]; rfl
  have honeF : ∀ l : List ((By × List RCel) × Value), (∀ r ∈ l, r ∈ rows) → ∀ u ∈ l.flatMap rsnC, u.oneCell' = true := fun l hl u hu => by
    obtain ⟨r, hr, hu⟩ := List.mem_flatMap.1 hu
    exact hone r (hl r hr) u hu
  have hlen2 : R.s.length ≤ 4294967296 := by omega
  by_cases hk5 : ok = 5
  case pos =>
    have kR := fun W => rNameR_calls nm W hnm
    subst hk5
    go_wp2_with fail
    rw [HY.out]
    refine (kR _).mono ?_
    rintro e w3 ⟨rfl, hf3⟩
    have h3 := h2.fr0 hf3
    have B03 := B02.fr0 hf3
    have B13 := B12.fr0 hf3
    have B23 := B22.fr0 hf3
    have hF3 := hF2.trans0 hf3
    have hr23 := hr2.fr0 hf3
    have hz3 : w.heap.size + 3 ≤ w3.heap.size := by have := hf3.size; omega
    clear kR c0 c1 c2 g2 l2 B02 B12 B22 h2 hF2 hD hE6 hE7
    have c0 := B03.cell
    have c1 := B13.cell
    have c2 := B23.cell
    have g0 := B03.frozen
    have g2 := B23.frozen
    have l2 := B23.lt
    cases hok : okName nm with
    | false =>
      have he := hidIt (hend _ _ _ _ _ h3 hF3 1 (hA.out trivial hok))
      clear hA hB hC hend hok
      go_wp2
      refine bodyPost_ret (v := .tuple #[.agg #[.int .i64 (R.mn : Int), .int .i64 (R.rm : Int), .slice ac R.c.length cc, .slice as_ R.s.length cs, .slice ad R.d.length cd], .int .i64 1]) (by simp [results, Tryz.results34, go_sem, c2]) rfl ?_
      have := he.out
      simpa using this
    | true =>
      cases hfi : rfindI R.s nm with
      | some k =>
        have he := hidIt (hend _ _ _ _ _ h3 hF3 123 (hB.out trivial hok (.inl (by rw [hfi]; rfl))))
        have hkf : fidx (some k) = (k : Int) := rfl
        rw [hkf]
        clear hA hB hC hend hok hfl hfi hkf
        go_wp2
        refine bodyPost_ret (v := .tuple #[.agg #[.int .i64 (R.mn : Int), .int .i64 (R.rm : Int), .slice ac R.c.length cc, .slice as_ R.s.length cs, .slice ad R.d.length cd], .int .i64 123]) (by simp [results, Tryz.results34, go_sem, c2]) rfl ?_
        have := he.out
        simpa using this
      | none =>
        have hkf : fidx none = -1 := rfl
        rw [hkf]
        by_cases h8 : 8 ≤ R.s.length
        · have he := hidIt (hend _ _ _ _ _ h3 hF3 123 (hB.out trivial hok (.inr h8)))
          have h8' : (8 : Int) ≤ (R.s.length : Int) := by omega
          clear hA hB hC hend hok hfl hfi hkf
          go_wp2
          refine bodyPost_ret (v := .tuple #[.agg #[.int .i64 (R.mn : Int), .int .i64 (R.rm : Int), .slice ac R.c.length cc, .slice as_ R.s.length cs, .slice ad R.d.length cd], .int .i64 123]) (by simp [results, Tryz.results34, go_sem, c2]) rfl ?_
          have := he.out
          simpa using this
        · have h8' : ¬ (8 : Int) ≤ (R.s.length : Int) := by omega
          have hres := hidIt (hC.out trivial hok (by rw [hfi]; simp; omega))
          have hokN := hokS.snap nm (by omega)
          clear hA hB hC hok hfl hfi hkf
          have hfe := (Fr.refl [] w3).alloc (.cells #[] 88)
          have hown0 := World.ownsRow_made (e := 88) (base := w3.heap.size) (size := 2) w3 #[] 0 (Nat.le_refl _) (by decide) rfl
          have hr33 := hr23.fr0 hfe
          have hsl33 : Sl (w3.alloc (.cells #[] 88)) (.slice as_ R.s.length cs) R.s.length (rows.flatMap rsnC) := by
            have := hr33.sl
            unfold SlF at this
            rw [hrl] at this
            exact this
          have B04 := B03.fr0 hfe
          have B14 := B13.fr0 hfe
          have c04 := B04.cell
          have c14 := B14.cell
          go_wp2_with (at_builtin; refine Hid.out ?_)
          refine hidIt ?_
          refine wpList_append_sl 34 88 (.agg #[.string ⟨#[]⟩, .slice none 0 0]) 2 40 Tryz.underlying34 infoRS rfl (by decide) (by decide) rfl _ _ rfl w3.heap.size (.slice (some ⟨w3.heap.size, 0, none⟩) 0 0) 0 [] rfl hown0 (.slice as_ R.s.length cs) R.s.length (rows.flatMap rsnC) hsl33 hr33.ok (by rw [flatR_length, hrl]) (honeF rows (fun _ h => h)) rfl (by omega) (by omega) (by simp) ?_
          intro v5 w5 hown5 hgrow5
          rw [Nat.zero_add, List.nil_append] at hown5
          have hf5 : Fr [] w3 w5 := hfe.grown hgrow5 (fun y hy => .inr (by have : w3.heap.size = y := by simpa [Value.ownBlock] using hy
                                                                           omega))
          obtain ⟨a5, c5, rfl, hc5, _⟩ := Sl.of_owns hown5
          have B05 := B03.fr0 hf5
          have B15 := B13.fr0 hf5
          have B25 := B23.fr0 hf5
          have h5 := h3.fr0 hf5
          have hz5 := hf5.size
          have c05 := B05.cell
          have c15 := B15.cell
          have hone1 : ∀ u ∈ [Value.string sy, .slice ac R.c.length cc], u.oneCell' = true := fun u hu => by
            simp only [List.mem_cons, List.not_mem_nil, or_false] at hu
            rcases hu with rfl | rfl <;> rfl
          clear hown0 hsl33 hr33 hgrow5 hfe B04 B14 c04 c14 B03 B13 B23 c0 c1 c2 g0 g2 l2
          go_wp2_with (at_builtin; refine Hid.out ?_)
          refine hidIt ?_
          refine wpList_append1 34 88 _ 2 40 Tryz.underlying34 infoRS rfl (by decide) (by decide) rfl _ _ rfl w3.heap.size _ _ _ rfl (hown5.alloc _) [.string sy, .slice ac R.c.length cc] rfl hone1 w5.heap.size rfl (Blk.new' (by simp) _ _) (by omega) (by simp; omega) ?_
          intro v7 w7 hown7 hgrow7 hloc7
          have hf37 : Fr [] w3 w7 := (hf5.alloc _).grown hgrow7 (fun x hx => .inr (own_base hown5 x hx))
          have h7 := h3.fr0 hf37
          have hF7 := hF3.trans0 hf37
          have hfx : ∀ b cs t, Blk w5 b cs t → b < w3.heap.size → Blk w7 b cs t := fun b cs t hB hb => by
            have h5 := (hB.alloc (.cells #[.string sy, .slice ac R.c.length cc] 88)).fr (Fr.of_grown hgrow7) (fun hm => by have := own_base hown5 b (Option.mem_toList.1 hm); omega)
            exact h5
          have B07 := hfx _ _ _ B05 (by omega)
          have B27 := hfx _ _ _ B25 (by omega)
          have e7 : rows.flatMap rsnC ++ [Value.string sy, .slice ac R.c.length cc] = (rows ++ [((nm, R.c), Value.slice ac R.c.length cc)]).flatMap rsnC := by rw [List.flatMap_append, HY.out]; rfl
          rw [e7] at hown7
          obtain ⟨a7, c7, rfl, hc7, _⟩ := Sl.of_owns hown7
          have d0 := B07.cell
          have g0 := B07.frozen
          have l0 := B07.lt
          have hS7 : Fr [w.heap.size] w7 (w7.setCell ⟨w.heap.size, 3, none⟩ (.slice a7 (R.s.length + 1) c7)) := (Fr.refl [w.heap.size] w7).setCell (p := ⟨w.heap.size, 3, none⟩) (.inl (by simp)) _
          have hnn : ∀ y ∈ [w.heap.size], ¬ S' y := fun y hy => by rw [List.mem_singleton.1 hy]; exact hSn
          have hr1' := owns_setCell hown7 (a := ⟨w.heap.size, 3, none⟩) (by show w.heap.size < w3.heap.size; omega) (.slice a7 (R.s.length + 1) c7)
          have hF8 := hF7.setCell (p := ⟨w.heap.size, 3, none⟩) (.inr (Nat.le_refl _)) (.slice a7 (R.s.length + 1) c7)
          have B08 := B07.setCell 3 (.slice a7 (R.s.length + 1) c7)
          have B28 := B27.other (p := ⟨w.heap.size, 3, none⟩) (by show w.heap.size + 2 ≠ w.heap.size; omega) (.slice a7 (R.s.length + 1) c7)
          have h8r : RiW S' (w7.setCell ⟨w.heap.size, 3, none⟩ (.slice a7 (R.s.length + 1) c7)) (.slice ac R.c.length cc) (.slice a7 (R.s.length + 1) c7) (.slice ad R.d.length cd) { R with s := R.s ++ [(nm, R.c)] } := by
            refine ⟨h7.c.frS hS7 hnn, ⟨rows ++ [((nm, R.c), Value.slice ac R.c.length cc)], by rw [List.map_append, hr1]; rfl, RowW.of_owns (by rw [List.length_append, hrl]; exact hr1') (fun k hk => hnew w3 (by omega) k hk), fun r hr => ?_⟩, h7.d.frS hS7 hnn, hokN⟩
            rcases List.mem_append.1 hr with hr | hr
            · exact (((hr3 r hr).fr0 hf3).fr0 hf37).frS hS7 hnn
            · rw [List.mem_singleton.1 hr]; exact h7.c.frS hS7 hnn
          have he := hidIt (hend _ _ _ _ _ h8r hF8 0 hres.out)
          have d8 := B08.cell
          have d28 := B28.cell
          have g28 := B28.frozen
          have l28 := B28.lt
          clear hend hres h8r hr1' hown7 hgrow7 hloc7 hfx e7 B05 B15 B25 c05 c15 hown5 h5 h7 h3 hr2 hr3 hr23 hone honeF hone1 hnew
          go_wp2
          refine bodyPost_ret (v := .tuple #[.agg #[.int .i64 (R.mn : Int), .int .i64 (R.rm : Int), .slice ac R.c.length cc, .slice a7 (R.s.length + 1) c7, .slice ad R.d.length cd], .int .i64 0]) (by simp [results, Tryz.results34, go_sem, d28]) rfl ?_
          have := he.out
          simpa using this
  have hk5' : (ok == 5) = false := by simpa using hk5
  cases hfi : rfindI R.s nm with
  | none =>
    have hkf : fidx none = -1 := rfl
    rw [hkf]
    have he := hidIt (hend _ _ _ _ _ h2 hF2 122 (hD.out hk5 hfi))
    clear hA hB hC hD hE6 hE7 hend hfl hfi hkf hk5 hone honeF hr2 hr3
    go_wp2
    refine bodyPost_ret (v := .tuple #[.agg #[.int .i64 (R.mn : Int), .int .i64 (R.rm : Int), .slice ac R.c.length cc, .slice as_ R.s.length cs, .slice ad R.d.length cd], .int .i64 122]) (by simp [results, Tryz.results34, go_sem, c2]) rfl ?_
    have := he.out
    simpa using this
  | some k =>
    have hkf : fidx (some k) = (k : Int) := rfl
    rw [hkf]
    have hkl := hfl k hfi
    have g0 := B02.frozen
    have l0 := B02.lt
    have hnn : ∀ y ∈ [w.heap.size], ¬ S' y := fun y hy => by rw [List.mem_singleton.1 hy]; exact hSn
    by_cases hk6 : ok = 6
    case pos =>
      have hres := hidIt (hE6.out k hk6 hfi)
      have hokA := hokS.apply hkl
      obtain ⟨b, off, a3, cap3, rfl, hb, d0, d1, hrow⟩ := h2.snapAt hkl
      have hrowf : Hid (RowW S' w2 celC (.slice a3 (R.s.getD k zRQ).2.length cap3) (R.s.getD k zRQ).2) := hidIt hrow
      have hS7 : Fr [w.heap.size] w2 (w2.setCell ⟨w.heap.size, 2, none⟩ (.slice a3 (R.s.getD k zRQ).2.length cap3)) := (Fr.refl [w.heap.size] w2).setCell (p := ⟨w.heap.size, 2, none⟩) (.inl (by simp)) _
      have hF8 := hF2.setCell (p := ⟨w.heap.size, 2, none⟩) (.inr (Nat.le_refl _)) (.slice a3 (R.s.getD k zRQ).2.length cap3)
      have B08 := B02.setCell 2 (.slice a3 (R.s.getD k zRQ).2.length cap3)
      have B28 := B22.other (p := ⟨w.heap.size, 2, none⟩) (by show w.heap.size + 2 ≠ w.heap.size; omega) (.slice a3 (R.s.getD k zRQ).2.length cap3)
      have h8r : RiW S' (w2.setCell ⟨w.heap.size, 2, none⟩ (.slice a3 (R.s.getD k zRQ).2.length cap3)) (.slice a3 (R.s.getD k zRQ).2.length cap3) (.slice (some ⟨b, off, none⟩) R.s.length cs) (.slice ad R.d.length cd) { R with c := (R.s.getD k zRQ).2 } := by
        have h2' := h2.frS hS7 hnn
        exact ⟨hrowf.out.frS hS7 hnn, h2'.s, h2'.d, hokA⟩
      have he := hidIt (hend _ _ _ _ _ h8r hF8 0 hres.out)
      generalize (R.s.getD k zRQ).2 = q at *
      generalize (R.s.getD k zRQ).1 = qn at *
      have d8 := B08.cell
      have d28 := B28.cell
      have g28 := B28.frozen
      have l28 := B28.lt
      clear hA hB hC hD hE6 hE7 hend hfl hfi hkf hk5 hone honeF hr2 hr3 hres h8r h2 hrow hrowf hokA hnew
      subst hk6
      go_wp2
      refine bodyPost_ret (v := .tuple #[.agg #[.int .i64 (R.mn : Int), .int .i64 (R.rm : Int), .slice a3 q.length cap3, .slice (some ⟨b, off, none⟩) R.s.length cs, .slice ad R.d.length cd], .int .i64 0]) (by simp [results, Tryz.results34, go_sem, d28]) rfl ?_
      have := he.out
      simpa using this
    have hk6' : (ok == 6) = false := by simpa using hk6
    have hres := hidIt (hE7.out k hk5 hk6 hfi)
    have hokE := hokS.drop k
    obtain ⟨sb, so, _, _, rfl, _⟩ := h2.snapAt hkl
    have hto := fun W => cut_to (P := Tryz.prog) (w := W) 34 88 2 Tryz.underlying34 (by kernel_rfl) (some ⟨sb, so, none⟩) R.s.length cs k (by omega)
    have hfrom := fun W => cut_from (P := Tryz.prog) (w := W) 34 88 2 Tryz.underlying34 (by kernel_rfl) (some ⟨sb, so, none⟩) R.s.length cs (k + 1) (by omega)
    have hsA : ∃ a9, slAddr (some ⟨sb, so, none⟩) cs (k + 1) 2 = some a9 := by unfold slAddr; split <;> exact ⟨_, rfl⟩
    obtain ⟨a9, ha9⟩ := hsA
    rw [ha9] at hfrom
    have hslT : ∀ W, Fr [] w2 W → Sl W (.slice (some ⟨sb, so, none⟩) k cs) k ((rows.take k).flatMap rsnC) := fun W hW => by
      have h9 := (hr2.fr0 hW).sl
      have h10 := SlF.to 2 (fun _ => rfl) (f := rsnC) (n := R.s.length) (l := rows) h9 (m := k) (by omega)
      unfold SlF at h10
      rw [List.length_take, Nat.min_eq_left (by omega)] at h10
      exact h10
    have hslF : ∀ W, Fr [] w2 W → Sl W (.slice (some a9) (R.s.length - (k + 1)) (cs - (k + 1))) (R.s.length - (k + 1)) ((rows.drop (k + 1)).flatMap rsnC) := fun W hW => by
      have h9 := (hr2.fr0 hW).sl
      have h10 := SlF.from 2 (fun _ => rfl) (f := rsnC) (n := R.s.length) (l := rows) h9 (m := k + 1) (by omega)
      unfold SlF at h10
      rw [List.length_drop, hrl, ha9] at h10
      exact h10
    have hfe := (Fr.refl [] w2).alloc (.cells #[] 88)
    have hown0 := World.ownsRow_made (e := 88) (base := w2.heap.size) (size := 2) w2 #[] 0 (Nat.le_refl _) (by decide) rfl
    have B04 := B02.fr0 hfe
    have c04 := B04.cell
    have hcast : ((k + 1 : Nat) : Int) = (k : Int) + 1 := by omega
    rw [hcast] at hfrom
    clear hA hB hC hD hE6 hE7 hfl hfi hkf hk5
    go_wp2_with (at_builtin; refine Hid.out ?_)
    refine hidIt ?_
    refine wpList_append_sl 34 88 (.agg #[.string ⟨#[]⟩, .slice none 0 0]) 2 40 Tryz.underlying34 infoRS rfl (by decide) (by decide) rfl _ _ rfl w2.heap.size (.slice (some ⟨w2.heap.size, 0, none⟩) 0 0) 0 [] rfl hown0 (.slice (some ⟨sb, so, none⟩) k cs) k ((rows.take k).flatMap rsnC) (hslT _ hfe) (fun _ _ h => by cases h) (by rw [flatR_length, List.length_take, Nat.min_eq_left (by omega)]) (honeF _ (fun _ h => List.mem_of_mem_take h)) rfl (by omega) (by omega) (by simp) ?_
    intro v5 w5 hown5 hgrow5
    rw [Nat.zero_add, List.nil_append] at hown5
    have hf5 : Fr [] w2 w5 := hfe.grown hgrow5 (fun y hy => .inr (by have : w2.heap.size = y := by simpa [Value.ownBlock] using hy
                                                                     omega))
    obtain ⟨a5, c5, rfl, hc5, _⟩ := Sl.of_owns hown5
    have B05 := B02.fr0 hf5
    have B25 := B22.fr0 hf5
    have hz5 := hf5.size
    have c05 := B05.cell
    clear hown0 hgrow5 hfe B04 c04 c0 c1 c2 g0 g2 l2 l0
    go_wp2_with (at_builtin; refine Hid.out ?_)
    refine hidIt ?_
    refine wpList_append_sl 34 88 (.agg #[.string ⟨#[]⟩, .slice none 0 0]) 2 40 Tryz.underlying34 infoRS rfl (by decide) (by decide) rfl _ _ rfl w2.heap.size (.slice a5 k c5) k _ rfl hown5 (.slice (some a9) (R.s.length - (k + 1)) (cs - (k + 1))) (R.s.length - (k + 1)) ((rows.drop (k + 1)).flatMap rsnC) (hslF _ hf5) (fun _ _ h => by cases h) (by rw [flatR_length, List.length_drop, hrl]) (honeF _ (fun _ h => List.mem_of_mem_drop h)) rfl (by omega) (by omega) (by omega) ?_
    intro v7 w7 hown7 hgrow7
    have hf37 : Fr [] w2 w7 := hf5.grown hgrow7 (fun x hx => .inr (own_base hown5 x hx))
    have h7 := h2.fr0 hf37
    have hF7 := hF2.trans0 hf37
    have hfx : ∀ b cs t, Blk w5 b cs t → b < w2.heap.size → Blk w7 b cs t := fun b cs t hB hb => hB.fr (Fr.of_grown hgrow7) (fun hm => by have := own_base hown5 b (Option.mem_toList.1 hm); omega)
    have B07 := hfx _ _ _ B05 (by omega)
    have B27 := hfx _ _ _ B25 (by omega)
    have e7 : (rows.take k).flatMap rsnC ++ (rows.drop (k + 1)).flatMap rsnC = (rows.eraseIdx k).flatMap rsnC := by rw [← List.flatMap_append, List.eraseIdx_eq_take_drop_succ]
    have hlk : k + (R.s.length - (k + 1)) = R.s.length - 1 := by omega
    rw [e7, hlk] at hown7
    have hle : (rows.eraseIdx k).length = R.s.length - 1 := by rw [List.length_eraseIdx_of_lt (by omega), hrl]
    obtain ⟨a7, c7, rfl, hc7, _⟩ := Sl.of_owns hown7
    have d0 := B07.cell
    have g0 := B07.frozen
    have l0 := B07.lt
    have hS7 : Fr [w.heap.size] w7 (w7.setCell ⟨w.heap.size, 3, none⟩ (.slice a7 (R.s.length - 1) c7)) := (Fr.refl [w.heap.size] w7).setCell (p := ⟨w.heap.size, 3, none⟩) (.inl (by simp)) _
    have hr1' := owns_setCell hown7 (a := ⟨w.heap.size, 3, none⟩) (by show w.heap.size < w2.heap.size; omega) (.slice a7 (R.s.length - 1) c7)
    have hF8 := hF7.setCell (p := ⟨w.heap.size, 3, none⟩) (.inr (Nat.le_refl _)) (.slice a7 (R.s.length - 1) c7)
    have B08 := B07.setCell 3 (.slice a7 (R.s.length - 1) c7)
    have B28 := B27.other (p := ⟨w.heap.size, 3, none⟩) (by show w.heap.size + 2 ≠ w.heap.size; omega) (.slice a7 (R.s.length - 1) c7)
    have h8r : RiW S' (w7.setCell ⟨w.heap.size, 3, none⟩ (.slice a7 (R.s.length - 1) c7)) (.slice ac R.c.length cc) (.slice a7 (R.s.length - 1) c7) (.slice ad R.d.length cd) { R with s := R.s.eraseIdx k } := by
      refine ⟨h7.c.frS hS7 hnn, ⟨rows.eraseIdx k, by rw [map_erase, hr1], RowW.of_owns (by rw [hle]; exact hr1') (fun k hk => hnew w2 (by omega) k hk), fun r hr => ?_⟩, h7.d.frS hS7 hnn, hokE⟩
      exact ((hr3 r ((List.eraseIdx_sublist rows k).subset hr)).fr0 hf37).frS hS7 hnn
    have he := hidIt (hend _ _ _ _ _ h8r hF8 0 hres.out)
    have d8 := B08.cell
    have d28 := B28.cell
    have g28 := B28.frozen
    have l28 := B28.lt
    generalize R.s.length - 1 = L7 at *
    clear hend hres h8r hr1' hown7 hgrow7 hfx e7 B05 B25 c05 hown5 h7 h2 hr2 hr3 hone honeF hnew hslT hslF hto hfrom
    go_wp2
    refine bodyPost_ret (v := .tuple #[.agg #[.int .i64 (R.mn : Int), .int .i64 (R.rm : Int), .slice ac R.c.length cc, .slice a7 L7 c7, .slice ad R.d.length cd], .int .i64 0]) (by simp [results, Tryz.results34, go_sem, d28]) rfl ?_
    have := he.out
    simpa using this
end
end Go.Proofs.YtilhbjjjmdnjmaaGreat
