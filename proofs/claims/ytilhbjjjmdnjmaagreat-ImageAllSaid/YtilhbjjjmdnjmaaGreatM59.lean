/-
  The document's image: Discard, Find.
-/
import Derived.Test.YtilhbjjjmdnjmaaGreatRiJ
namespace Go.Proofs.YtilhbjjjmdnjmaaGreat
open Go.RowKit Go.Maps
attribute [local go_sem] cells_str store_str len_str eql_str neq_str guard_str

section
variable {R : RIm} {a l : Nat}
theorem rdN_keep : ∀ k, (rdN R a l k).mn = R.mn ∧ (rdN R a l k).rm = R.rm ∧ (rdN R a l k).c.length = R.c.length ∧ (rdN R a l k).s = R.s ∧ (rdN R a l k).d = R.d
  | 0 => ⟨rfl, rfl, rfl, rfl, rfl⟩
  | k + 1 => by
    have h1 := rdN_keep k
    show (if _ then _ else _ : RIm).mn = _ ∧ (if _ then _ else _ : RIm).rm = _ ∧ (if _ then _ else _ : RIm).c.length = _ ∧ (if _ then _ else _ : RIm).s = _ ∧ (if _ then _ else _ : RIm).d = _
    split
    · exact ⟨h1.1, h1.2.1, List.length_set.trans h1.2.2.1, h1.2.2.2.1, h1.2.2.2.2⟩
    · exact h1
end
def fidx (r : Option Nat) : Int := match r with | some k => (k : Int) | none => -1
theorem rfind_at {s : List (By × List RCel)} {nm : By} {k : Nat} (hk : k < s.length) (h : (s.getD k zRQ).1 = nm) (h2 : ∀ j, j < k → (s.getD j zRQ).1 ≠ nm) : rfindI s nm = some k := by
  unfold rfindI
  rw [List.findIdx?_eq_some_iff_getElem]
  have hg : ∀ j (hj : j < s.length), s.getD j zRQ = s[j] := fun j hj => by rw [List.getD_eq_getElem?_getD, List.getElem?_eq_getElem hj]; rfl
  refine ⟨hk, by rw [← hg k hk]; simpa using h, fun j hj => ?_⟩
  have := h2 j hj
  rw [hg j (by omega)] at this
  simpa using this
theorem rfind_no {s : List (By × List RCel)} {nm : By} (h2 : ∀ j, j < s.length → (s.getD j zRQ).1 ≠ nm) : rfindI s nm = none := by
  unfold rfindI
  rw [List.findIdx?_eq_none_iff]
  intro x hx
  obtain ⟨j, hj, rfl⟩ := List.getElem_of_mem hx
  have := h2 j hj
  rw [List.getD_eq_getElem?_getD, List.getElem?_eq_getElem hj] at this
  simpa using this
section
variable {S : Nat → Prop} {vc vs vd : Value} {R : RIm}
set_option maxRecDepth 100000 in
set_option maxHeartbeats 1600000 in
theorem rFind_calls (nm : By) (w : World) (h : RiW S w vc vs vd R) : Calls Tryz.prog 74 #[riV R vc vs vd, strL nm] w fun e w' => e = .returned (.int .i64 (fidx (rfindI R.s nm))) ∧ Fr [] w w' := by
  obtain ⟨ac, cc, as_, cs, ad, cd, rfl, rfl, rfl, hcc, hcs, hcd⟩ := h.open
  have hsl := h.ok.sl
  have Hat : Hid (∀ k, k < R.s.length → (R.s.getD k zRQ).1 = nm → (∀ j, j < k → (R.s.getD j zRQ).1 ≠ nm) → fidx (rfindI R.s nm) = k) := hidIt (fun k hk h1 h2 => by rw [rfind_at hk h1 h2]; rfl)
  have Hno : Hid ((∀ j, j < R.s.length → (R.s.getD j zRQ).1 ≠ nm) → fidx (rfindI R.s nm) = -1) := hidIt (fun h => by rw [rfind_no h]; rfl)
  generalize fidx (rfindI R.s nm) = res at *
  have B0 := Blk.new w [.int .i64 (R.mn : Int), .int .i64 (R.rm : Int), .slice ac R.c.length cc, .slice as_ R.s.length cs, .slice ad R.d.length cd] 36
  have hfa := (Fr.refl [] w).alloc (.cells #[.int .i64 (R.mn : Int), .int .i64 (R.rm : Int), .slice ac R.c.length cc, .slice as_ R.s.length cs, .slice ad R.d.length cd] 36)
  have h1 := h.fr0 hfa
  generalize hw1 : w.alloc (.cells #[.int .i64 (R.mn : Int), .int .i64 (R.rm : Int), .slice ac R.c.length cc, .slice as_ R.s.length cs, .slice ad R.d.length cd] 36) = w1 at *
  have c0 := B0.cell
  clear h
  unfold riV
  go_enter Tryz.func74, Tryz.ntmps74
  go_wp2
  try rw [hw1]
  clear hw1
  go_loopw [5] (fun i wr => ∃ k : Nat, k ≤ R.s.length ∧ i = .int .i64 (k : Int) ∧ Hid (∀ j, j < k → (R.s.getD j zRQ).1 ≠ nm) ∧ w1 = wr) (fun i _ => R.s.length - (intOf i).toNat)
  case atStart => exact ⟨0, Nat.zero_le _, rfl, hidIt fun j hj => absurd hj (Nat.not_lt_zero j), rfl⟩
  obtain ⟨k, hk, rfl, hno, rfl⟩ := hrel
  by_cases hlt : k < R.s.length
  case pos =>
    obtain ⟨b, off, a2, cap2, rfl, hb, d0, d1, _⟩ := h1.snapAt hlt
    have hst := fun (hne : (R.s.getD k zRQ).1 ≠ nm) => hidIt (show ∀ j, j < k + 1 → (R.s.getD j zRQ).1 ≠ nm from fun j hj => by
      by_cases e : j = k
      · rw [e]; exact hne
      · exact hno.out j (by omega))
    have hat := fun (he : (R.s.getD k zRQ).1 = nm) => hidIt (Hat.out k hlt he hno.out)
    generalize (R.s.getD k zRQ).1 = x at *
    generalize (R.s.getD k zRQ).2 = q at *
    clear Hat Hno hno h1
    by_cases he : x = nm
    · have hat' := hat he
      subst he
      clear hat hst
      go_wp2
      go_ret
      exact ⟨ret_int hat'.out.symm, hfa⟩
    · have hst' := hst he
      have hd : decide (x = nm) = false := decide_eq_false he
      clear hat hst
      go_wp2
      go_roundw
      case rel => exact ⟨k + 1, by omega, by go_num, hst', trivial⟩
      case measure => simp [intOf]; omega
  have hke : k = R.s.length := by omega
  subst hke
  have hr := hidIt (Hno.out hno.out)
  clear hlt Hat Hno hno
  go_wp2
  go_ret
  exact ⟨ret_int hr.out.symm, hfa⟩
set_option maxRecDepth 100000 in
set_option maxHeartbeats 3200000 in
theorem rDisc_calls (x l : Int) (w : World) (h : RiW S w vc vs vd R) (hS : ∀ k, w.heap.size ≤ k → S k) :
    Calls Tryz.prog 33 #[riV R vc vs vd, .int .i64 x, .int .i64 l] w (pairPost S w (rdiscE R x l)) := by
  obtain ⟨ac, cc, as_, cs, ad, cd, rfl, rfl, rfl, hcc, hcs, hcd⟩ := h.open
  have hcl := h.ok.cl
  have hm8 := h.ok.m8
  have hmp := h.ok.mp
  obtain ⟨n, hn⟩ : ∃ n, n = w.heap.size := ⟨_, rfl⟩
  obtain ⟨S', hS'⟩ : ∃ S' : Nat → Prop, S' = fun k => S k ∧ k ≠ n ∧ k ≠ n + 1 := ⟨_, rfl⟩
  have hnew : ∀ W : World, n + 2 ≤ W.heap.size → ∀ k, W.heap.size ≤ k → S' k := fun W hW k hk => by rw [hS']; exact ⟨hS k (by omega), by omega, by omega⟩
  have hSn : ¬ S' n := by rw [hS']; rintro ⟨_, h1, _⟩; exact h1 rfl
  have hSn1 : ¬ S' (n + 1) := by rw [hS']; rintro ⟨_, _, h1⟩; exact h1 rfl
  have hST : ∀ k, S' k → S k := by rw [hS']; exact fun k h => h.1
  have h0 : RiW S' w (.slice ac R.c.length cc) (.slice as_ R.s.length cs) (.slice ad R.d.length cd) R := h.old.mono (fun k hk => by rw [hS']; exact ⟨hk.1, by omega, by omega⟩)
  clear hS'
  have hfa := (Fr.refl [] w).alloc (.cells #[.int .i64 (R.mn : Int), .int .i64 (R.rm : Int), .slice ac R.c.length cc, .slice as_ R.s.length cs, .slice ad R.d.length cd] 36)
  have B0 := Blk.new w [.int .i64 (R.mn : Int), .int .i64 (R.rm : Int), .slice ac R.c.length cc, .slice as_ R.s.length cs, .slice ad R.d.length cd] 36
  have B1 := Blk.new' (w := w.alloc (.cells #[.int .i64 (R.mn : Int), .int .i64 (R.rm : Int), .slice ac R.c.length cc, .slice as_ R.s.length cs, .slice ad R.d.length cd] 36)) (n := w.heap.size + 1) (by simp) [.int .i64 0, .int .i64 0, .slice none 0 0, .slice none 0 0, .slice none 0 0] 36
  replace hfa := hfa.alloc (.cells #[.int .i64 0, .int .i64 0, .slice none 0 0, .slice none 0 0, .slice none 0 0] 36)
  replace B0 := B0.alloc (.cells #[.int .i64 0, .int .i64 0, .slice none 0 0, .slice none 0 0, .slice none 0 0] 36)
  have hz : ((w.alloc (.cells #[.int .i64 (R.mn : Int), .int .i64 (R.rm : Int), .slice ac R.c.length cc, .slice as_ R.s.length cs, .slice ad R.d.length cd] 36)).alloc (.cells #[.int .i64 0, .int .i64 0, .slice none 0 0, .slice none 0 0, .slice none 0 0] 36)).heap.size = w.heap.size + 2 := by simp
  generalize hw1 : (w.alloc (.cells #[.int .i64 (R.mn : Int), .int .i64 (R.rm : Int), .slice ac R.c.length cc, .slice as_ R.s.length cs, .slice ad R.d.length cd] 36)).alloc (.cells #[.int .i64 0, .int .i64 0, .slice none 0 0, .slice none 0 0, .slice none 0 0] 36) = w1 at *
  have hbox : BoxW S' w w1 w.heap.size (.slice ac R.c.length cc) (.slice as_ R.s.length cs) (.slice ad R.d.length cd) R := ⟨B0, B1, h0.fr0 hfa, hfa⟩
  rw [hn] at hnew hSn hSn1
  clear hn n
  have hE2 : Hid (rinside R x l ≠ 0 → rdiscE R x l = (rinside R x l, R)) := hidIt (fun e => by unfold rdiscE; rw [if_pos e])
  have hE4 : Hid (¬ rinside R x l ≠ 0 → rdiscE R x l = (0, rdN R x.toNat l.toNat R.c.length)) := hidIt (fun e => by unfold rdiscE; rw [if_neg e])
  have kI := fun W h => rInside_calls (S := S') (vc := .slice ac R.c.length cc) (vs := .slice as_ R.s.length cs) (vd := .slice ad R.d.length cd) (R := R) x l W h
  generalize rdiscE R x l = res at *
  have c0 := hbox.box.cell
  have hend := fun W vcX vsX vdX RX (hb : BoxW S' w W w.heap.size vcX vsX vdX RX) code (hr : res = (code, RX)) => hb.ret (T := S) (r := res) (Nat.le_refl _) hSn1 hST (by rw [hr]) code (by rw [hr])
  clear h h0 hfa hS B0 B1
  unfold riV at *
  go_enter Tryz.func33, Tryz.ntmps33
  go_wp2_with fail
  refine (kI _ hbox.ri).mono ?_
  rintro e w2 ⟨rfl, hf2⟩
  have hb2 := hbox.keep hf2
  have hz2 : w.heap.size + 2 ≤ w2.heap.size := by have := hf2.size; omega
  clear kI c0 hw1 hbox hz hf2
  by_cases hi : rinside R x l = 0
  case neg =>
    have he := hidIt (hend _ _ _ _ _ hb2 _ (hE2.out hi))
    have hi' : (rinside R x l == 0) = false := by simpa using hi
    have c0 := hb2.box.cell
    have c1 := hb2.res.cell
    have g1 := hb2.res.frozen
    clear hE2 hE4 hend hnew hi
    generalize rinside R x l = ii at *
    have hfin : Hid (w2 = w2) := hidIt rfl
    go_wp2
    go_loopw [9] (fun i wr => i = .int .i64 0 ∧ wr = w2) (fun _ _ => 0)
    case atStart => exact ⟨rfl, rfl⟩
    obtain ⟨rfl, rfl⟩ := hrel
    by_cases hc0 : (0 : Int) < (R.c.length : Int)
    · go_wp2
      refine bodyPost_ret (v := .tuple #[.agg #[.int .i64 (R.mn : Int), .int .i64 (R.rm : Int), .slice ac R.c.length cc, .slice as_ R.s.length cs, .slice ad R.d.length cd], .int .i64 ii]) (by simp [results, Tryz.results33, go_sem, c1]) rfl ?_
      have := he.out
      simpa using this
    · go_wp2
      refine bodyPost_ret (v := .tuple #[.agg #[.int .i64 (R.mn : Int), .int .i64 (R.rm : Int), .slice ac R.c.length cc, .slice as_ R.s.length cs, .slice ad R.d.length cd], .int .i64 ii]) (by simp [results, Tryz.results33, go_sem, c1]) rfl ?_
      have := he.out
      simpa using this
  obtain ⟨a, L, rfl, rfl, hal⟩ := rinside_ok hi
  rw [hi]
  have hni : ¬ rinside R (a : Int) (L : Int) ≠ 0 := fun e => e hi
  have hE5 := hidIt (hE4.out hni)
  rw [Int.toNat_natCast, Int.toNat_natCast] at hE5
  have hA : R.mn * R.c.length ≤ 8 * 256 := Nat.mul_le_mul hm8 hcl
  have haL : a + L ≤ 2048 := by omega
  have hke := fun k => rdN_keep (R := R) (a := a) (l := L) k
  have hst : ∀ k, Hid (rdN R a L (k + 1) = if rins R.mn k a L = R.mn then rset (rdN R a L k) k (0, 0) else rdN R a L k) := fun k => hidIt rfl
  have hb0 : BoxW S' w w2 w.heap.size (.slice ac R.c.length cc) (.slice as_ R.s.length cs) (.slice ad R.d.length cd) (rdN R a L 0) := hb2
  clear hi hni hE2 hE4 hal hA hb2
  go_wp2
  go_loopw [9] (fun i wr => ∃ (k : Nat) (vc' : Value), k ≤ R.c.length ∧ i = .int .i64 (k : Int) ∧ BoxW S' w wr w.heap.size vc' (.slice as_ R.s.length cs) (.slice ad R.d.length cd) (rdN R a L k) ∧ Fr [w.heap.size] w2 wr) (fun i _ => R.c.length - (intOf i).toNat)
  case atStart => exact ⟨0, _, Nat.zero_le _, rfl, hb0, Fr.refl _ _⟩
  clear hb0
  obtain ⟨k, vc', hk, rfl, hbr, hFr⟩ := hrel
  obtain ⟨hk1, hk2, hk3, hk4, hk5⟩ := hke k
  obtain ⟨R', hR'⟩ : ∃ R', Hid (rdN R a L k = R') := ⟨_, hidIt rfl⟩
  have hst' := hst k
  rw [hR'.out] at hk1 hk2 hk3 hk4 hk5 hbr hst'
  obtain ⟨ac', cc', as', cs', ad', cd', hv1, hv2, hv3, hle1, hle2, hle3⟩ := hbr.ri.open
  subst hv1
  have c0 := hbr.box.cell
  have hzr : w.heap.size + 2 ≤ wr.heap.size := by have := hFr.size; omega
  replace hk1 := hidIt hk1
  replace hk2 := hidIt hk2
  replace hk3 := hidIt hk3
  clear hv2 hv3 hk4 hk5
  by_cases hlt : k < R.c.length
  case pos =>
    have hltR : k < R'.c.length := by rw [hk3.out]; exact hlt
    have hd := (Fr.refl [] wr).drew
    have hbd := hbr.keep hd
    have hFd := hFr.trans0 hd
    have Bd := hbd.box
    have hzd : w.heap.size + 2 ≤ wr.drew.heap.size := hzr
    have hm9 := hbr.ri.ok.m8
    have kI := rIns_calls k a L _ hbd.ri (by omega) (by omega) (by omega)
    have hql := rins_le R'.mn k a L
    rw [← hk1.out] at hst'
    clear hke hst hend hE5 hR' hbr hFr hd
    unfold riV at kI
    generalize rins R'.mn k a L = q at *
    go_wp2_with fail
    refine wp_region_G (Fr [] wr.drew) [(true, 0), (true, 1), (true, 2), (true, 3), (true, 5), (true, 6), (false, 4), (true, 7)] (by as_aux_lemma => kernel_rfl) (by as_aux_lemma => kernel_rfl) (Fr.refl _ _) ?_
    simp only [inOrder, List.map_cons, List.map_nil, List.getD_cons_zero, List.getD_cons_succ]
    refine wpG_val (.agg #[.int .i64 (R'.mn : Int), .int .i64 (R'.rm : Int), .slice ac' R'.c.length cc', .slice as_ R.s.length cs, .slice ad R.d.length cd]) (by first | rfl | go_simp) (fun X hX => by have cc := (Bd.fr0 hX).cell; go_simp) ?_
    simp only [Act.put, List.setIfInBounds_toArray, List.set_cons_zero, List.set_cons_succ]
    iterate 4
      refine wpG_pure fun K hK => ?_
      go_simp
      refine hK _ ?_
      clear hK K
    refine wpG_val (.int .i64 (R'.mn : Int)) (by first | rfl | go_simp) (fun X hX => by have cc := (Bd.fr0 hX).cell; go_simp) ?_
    simp only [Act.put, List.setIfInBounds_toArray, List.set_cons_zero, List.set_cons_succ]
    refine wpG_one fun K hK => ?_
    go_simp
    refine (kI).mono ?_
    rintro e w4 ⟨rfl, hf4⟩
    refine hK _ _ (hf4) ?_
    clear hK K
    iterate 1
      refine wpG_pure fun K hK => ?_
      go_simp
      refine hK _ ?_
      clear hK K
    refine wpG_end ?_
    have hb4 := hbd.keep hf4
    have hF4 := hFd.trans0 hf4
    have hz4 : w.heap.size + 2 ≤ w4.heap.size := by have := hf4.size; omega
    have c4 := hb4.box.cell
    clear kI Bd hbd hFd c0
    by_cases hqm : q = R'.mn
    · rw [if_pos hqm] at hst'
      have hqm' : ((q : Int) == (R'.mn : Int)) = true := by simp; omega
      have kS := rSet_calls k (0, 0) _ hb4.ri hltR (hnew _ hz4) (hb4.ri.ok.setc k (x := (0, 0)) (fun e => absurd e (by simp)))
      unfold riV at kS
      go_wp2_with fail
      refine kS.mono ?_
      rintro e w5 ⟨vc5, rfl, h5, hf5, _⟩
      have hb5 := hb4.keep hf5
      have hb6 := hb5.put (Nat.le_refl _) hSn h5
      generalize rset R' k (0, 0) = R5 at *
      obtain ⟨ac5, cc5, as5, cs5, ad5, cd5, rfl, hv6, hv5, _⟩ := h5.open
      have c5 := hb5.box.cell
      have g5 := hb5.box.frozen
      have hF6 : Fr [w.heap.size] w2 _ := (((((hF4.trans0 hf5).setCell (p := ⟨w.heap.size, 0, none⟩) (.inl (by simp)) (.int .i64 (R5.mn : Int))).setCell (p := ⟨w.heap.size, 1, none⟩) (.inl (by simp)) (.int .i64 (R5.rm : Int))).setCell (p := ⟨w.heap.size, 2, none⟩) (.inl (by simp)) (.slice ac5 R5.c.length cc5)).setCell (p := ⟨w.heap.size, 3, none⟩) (.inl (by simp)) (.slice as_ R.s.length cs)).setCell (p := ⟨w.heap.size, 4, none⟩) (.inl (by simp)) (.slice ad R.d.length cd)
      clear kS h5 hb5 hb4 c4 hv5 hv6
      unfold riV
      go_wp2
      go_roundw
      case rel => exact ⟨k + 1, _, by omega, by go_num, by rw [hst'.out]; exact hb6, hF6⟩
      case measure => simp [intOf]; omega
    · rw [if_neg hqm] at hst'
      have hqm' : ((q : Int) == (R'.mn : Int)) = false := by simp; omega
      go_wp2
      go_roundw
      case rel => exact ⟨k + 1, _, by omega, by go_num, by rw [hst'.out]; exact hb4, hF4⟩
      case measure => simp [intOf]; omega
  have hke : k = R.c.length := by omega
  subst hke
  rw [hR'.out] at hE5
  have he := hidIt (hend _ _ _ _ _ hbr 0 hE5.out)
  have c1 := hbr.res.cell
  have g1 := hbr.res.frozen
  have hlt' : ¬ ((R.c.length : Nat) : Int) < (R'.c.length : Int) := by rw [hk3.out]; omega
  clear hlt hke hst hst' hend hE5 hR' hk3
  go_wp2
  refine bodyPost_ret (v := .tuple #[.agg #[.int .i64 (R'.mn : Int), .int .i64 (R'.rm : Int), .slice ac' R'.c.length cc', .slice as_ R.s.length cs, .slice ad R.d.length cd], .int .i64 0]) (by simp [results, Tryz.results33, go_sem, c1]) rfl ?_
  have := he.out
  simpa using this
end
end Go.Proofs.YtilhbjjjmdnjmaaGreat
