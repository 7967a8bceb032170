/-
  law08.TableBytes: the walk.
-/
import Derived.Test.YtknbjdbdpdbeiaaTableAll
import Derived.Test.YtknbjdbdpdbeiaaTabDd
import Derived.Test.YtknbjdbdpdbeiaaRef08d
import Derived.Test.YtknbjdbdpdbeiaaOpenY
namespace Go.Proofs.Ytknbjdbdpdbeiaa
open Go.RowKit Go.Maps
attribute [local go_sem] eql_str guard_str
attribute [local go_sem high] equalSlot0 equalSlotR0

set_option maxRecDepth 100000 in
set_option maxHeartbeats 1600000 in
theorem TableBytes_many (n : Int) (vs vb : Value) (os : List Opr) (bs : List UInt8) (w : World) (hs : SlO w vs os) (hb : SlY w vb bs) (h : 5000 < bs.length ∨ 100 < os.length) :
    Calls Try.prog 9 #[.int .i64 n, vs, vb] w fun e w' => e = .returned (.bool true) ∧ Fr [] w w' := by
  obtain ⟨a, cap, rfl, _, _, _⟩ := hs.open
  obtain ⟨a', cap', rfl, _, _, _⟩ := hb.open
  by_cases h1 : 5000 < bs.length
  · have h1' : (5000 : Int) < bs.length := by omega
    clear h
    go_enter Try.func9, Try.ntmps9
    go_wp2_with fail
    refine (alive_calls _).mono ?_
    rintro e w1 ⟨rfl, hf⟩
    go_wp2
    go_ret
    exact ⟨rfl, hf⟩
  · have h1' : ¬ (5000 : Int) < bs.length := by omega
    have h2' : (100 : Int) < os.length := by omega
    clear h
    go_enter Try.func9, Try.ntmps9
    go_wp2_with fail
    refine (alive_calls _).mono ?_
    rintro e w1 ⟨rfl, hf⟩
    go_wp2
    go_ret
    exact ⟨rfl, hf⟩
set_option maxRecDepth 100000 in
set_option maxHeartbeats 6400000 in
theorem TableBytes_few (n : Int) (vs vb : Value) (os : List Opr) (bs : List UInt8) (w : World) (hs : SlO w vs os) (hb : SlY w vb bs) (hok : okV vb) (h1 : bs.length ≤ 5000) (h2 : os.length ≤ 100) :
    Calls Try.prog 9 #[.int .i64 n, vs, vb] w fun e w' => e = .returned (.bool true) ∧ Fr [] w w' := by
  obtain ⟨a, cap, rfl, hlc, hcm, _⟩ := hs.open
  obtain ⟨a', cap', rfl, _, hcm', _⟩ := hb.open
  unfold maxLen at hcm hcm'
  have h1' : ¬ (5000 : Int) < bs.length := by omega
  have h2' : ¬ (100 : Int) < os.length := by omega
  have kD := tDec_calls _ bs w hb hok h1
  go_enter Try.func9, Try.ntmps9
  go_wp2_with fail
  refine kD.mono ?_
  rintro e w1 hD
  have hf1 : Fr [] w w1 := by
    rcases hD with ⟨_, _, _, _, _, _, _, _, _, hf⟩ | ⟨_, _, hf⟩ <;> exact hf
  have hcv1 := conv_str (w := w1) (l := bs) (SlF.fr0 hb hf1)
  have kR := rDec_calls bs w1 (by omega)
  rcases hD with ⟨l, tb, mb, hg, he, rfl, ht, hm, hT, _⟩ | ⟨hno, rfl, _⟩
  case' inl =>
    go_wp2_with fail
    refine kR.mono ?_
    rintro e w2 (⟨l', u, hg', he', rfl, hsu, hf2⟩ | ⟨hno, rfl, hf2⟩)
    case' inr => exact absurd he (hno l hg)
    have hll := encT_inj hg hg' (he.trans he'.symm)
    subst hll
    have hF2 := hf1.trans0 hf2
    have hT2 := hT.fr0 hf2
    clear hg he hg' he' hT kR kD hcv1
    go_wp2_with fail
    refine (all_calls tb mb l _ hT2).mono ?_
    rintro e w3 ⟨v3, rfl, hown3, hf3⟩
    go_wp2_with fail
    refine (Same_calls v3 u l _ (SlF.of_owns hown3) (SlF.fr0 hsu hf3)).mono ?_
    rintro e w5 ⟨rfl, hf5⟩
    have hF5 := (hF2.trans0 hf3).trans0 hf5
    clear hF2 hT2 hown3 hf3 hf5 hsu hf2 hf1 ht hm
    go_wp2_with fail
  case' inr =>
    go_wp2_with fail
    refine kR.mono ?_
    rintro e w5 (⟨l', u, hg', he', rfl, hsu, hf2⟩ | ⟨_, rfl, hf2⟩)
    case' inl => exact absurd he' (hno l' hg')
    have hF5 := hf1.trans0 hf2
    clear kR kD hcv1 hno hf2 hf1
    go_wp2_with fail
  all_goals
    cases hok : okSize n with
    | false =>
      refine (New_no _ _ hok).mono ?_
      rintro e w6 ⟨rfl, rfl⟩
      go_wp2_with fail
      refine (alive_calls _).mono ?_
      rintro e w7 ⟨rfl, hf7⟩
      go_wp2
      go_ret
      exact ⟨rfl, hF5.trans0 hf7⟩
    | true =>
      obtain ⟨N, rfl⟩ : ∃ N : Nat, n = (N : Int) := ⟨n.toNat, by simp [okSize] at hok; omega⟩
      have hN : N ≤ 256 := by simp [okSize] at hok; omega
      refine (New_yes _ _ hok).mono ?_
      rintro e w6 ⟨tb, mb, rfl, ht, hm, hT, hf6⟩
      replace hT : TabW w6 tb mb (List.replicate N zS) := hT
      go_wp2_with fail
      refine (rNew_yes _ _ hN).mono ?_
      rintro e w7 ⟨v, rfl, hown, hf7⟩
      have hsl : SlS w7 v (List.replicate N zS) := SlF.of_owns (size := 3) (by rw [List.length_replicate]; exact hown)
      have hF7 := (hF5.trans0 hf6).trans0 hf7
      have hT7 := hT.fr0 hf7
      have hz6 := hF5.size
      clear hT hf6 hf7 hF5 hown
      go_wp2_with fail
      go_loopw [13, 91] (fun u i wr => ∃ k : Nat, k ≤ os.length ∧ i = .int .i64 k ∧ SlS wr u (tRun (List.replicate N zS) (os.take k)) ∧ TabW wr tb mb (tRun (List.replicate N zS) (os.take k)) ∧ Fr [] w wr) (fun _ i _ => os.length - (intOf i).toNat)
      case atStart => exact ⟨0, Nat.zero_le _, rfl, hsl, hT7, hF7⟩
      case round =>
        clear hT7 hF7 hsl
        obtain ⟨k, hk, rfl, hsl, hT, hF⟩ := hrel
        by_cases hlt : k < os.length
        · obtain ⟨b, off, rfl, hb, c0, c1, c2, c3, c4⟩ := SlO.at (hs.fr0 hF) hlt
          have Hst := hidIt (tRun_succ (l := List.replicate N zS) hlt)
          generalize tRun (List.replicate N zS) (os.take k) = l at *
          generalize os.getD k zO = o at *
          obtain ⟨q, c, kk, hh, ow⟩ := o
          simp only at c0 c1 c2 c3 c4
          have hlen := hT.len
          go_wp2_with fail
          refine (rDo_calls u13 l q c kk hh ow _ (hsl.fr0 ((Fr.refl _ _).alloc _)) hlen).mono ?_
          rintro e w3 ⟨u1, u2, rfl, hs1, hs2, hf⟩
          have B10 : Blk w3 wr.heap.size [.int .i64 q, .int .i64 c, .int .i64 kk, .int .i64 hh, .bool ow] 34 := (Blk.new wr [_, _, _, _, _] _).fr0 hf
          replace hF := (hF.alloc _).trans0 hf
          replace hT := hT.fr0 (((Fr.refl _ _).alloc _).trans0 hf)
          have d10 := B10.cell
          clear hf c0 c1 c2 c3 c4 hsl hb
          go_wp2_with fail
          refine (does_calls tb mb l q c kk hh ow _ hT).mono ?_
          rintro e w4 ⟨u3, rfl, hs3, hT4, hf⟩
          replace hF := hF.trans hf (fun x hx hl => by simp at hx; omega)
          replace hs1 := hs1.frT hT hf
          clear hf hT B10 d10 hs2 hs3
          generalize tDo l (q, c, kk, hh, ow) = r at *
          obtain ⟨r1, r2, r3⟩ := r
          simp only at *
          go_wp2
          go_roundw
          case rel => exact ⟨k + 1, by omega, by go_num, by rw [Hst.out]; exact hs1, by rw [Hst.out]; exact hT4, hF⟩
          case measure => simp [intOf]; omega
        · generalize tRun (List.replicate N zS) (os.take k) = l at *
          have hlen := hT.len
          have hrt := hT.right
          have hge : os.length ≤ k := by omega
          have Hkl := hidIt (keptL_le l)
          have Hel := hidIt (encT_len l)
          clear hlt
          go_wp2_with fail
          refine (tEncode_calls tb mb l.length (keptL l) (grp l) _ hT.raw).mono ?_
          rintro e w8 ⟨v8, rfl, hown8, hf8⟩
          have hy8 : SlY w8 v8 (encT l) := SlF.of_owns hown8
          go_wp2_with fail
          refine (tDec_calls v8 (encT l) _ hy8 (okV.of_owns hown8) (by have := Hkl.out; rw [Hel.out]; omega)).mono ?_
          rintro e w9 (⟨l', tz, mz, hg', he', rfl, _, _, hZ, hf9⟩ | ⟨hno, _⟩)
          case' inr => exact absurd rfl (hno l ⟨hlen, hrt⟩)
          have hll := encT_inj hg' ⟨hlen, hrt⟩ he'
          subst hll
          have hf89 := hf8.trans0 hf9
          have hT9 := hT.fr0 hf89
          have hsl9 := SlF.fr0 hsl hf89
          have hF9 := hF.trans0 hf89
          have hFd : Fr [] w9 w9.drew := (Fr.refl _ _).drew
          have hTd := hT9.fr0 hFd
          have hZd := hZ.fr0 hFd
          have hsd : SlS w9.drew u13 l' := SlF.fr0 hsl9 hFd
          have hFe := hF9.trans0 hFd
          clear hT hsl hF hown8 hf8 hy8 hf9 hf89 hT9 hsl9 hF9 hFd hZ hg' he'
          go_wp2_with fail
          refine wp_region_G (Fr [] w9.drew) [(false, 0), (true, 1), (true, 2), (true, 5), (false, 3), (true, 4), (false, 6), (true, 7), (true, 8), (true, 9), (true, 10), (true, 11), (true, 12), (true, 13), (true, 14), (true, 15), (true, 16), (true, 17), (true, 18), (true, 20), (false, 19), (false, 21), (true, 22), (true, 23)] (by as_aux_lemma => kernel_rfl) (by as_aux_lemma => kernel_rfl) (Fr.refl _ _) ?_
          simp only [inOrder, List.map_cons, List.map_nil, List.getD_cons_zero, List.getD_cons_succ]
          refine wpG_one fun K hK => ?_
          go_simp
          refine (alive_calls _).mono ?_
          rintro e wa ⟨rfl, hfa⟩
          refine hK _ _ (hfa) ?_
          clear hK K
          iterate 3
            refine wpG_pure fun K hK => ?_
            go_simp
            refine hK _ ?_
            clear hK K
          refine wpG_oneS fun K hK => ?_
          go_simp
          refine (tEncode_calls tb mb l'.length (keptL l') (grp l') _ (hTd.fr0 hfa).raw).mono ?_
          rintro e wb ⟨vb, rfl, hob, hfb⟩
          have hfab := hfa.trans0 hfb
          have hyb : SlY wb vb (encT l') := SlF.of_owns hob
          refine hK (Fr [] wb) (fun X hX => hfab.trans0 hX) _ _ (Fr.refl _ _) ?_
          clear hK K
          refine wpG_val (strL (encT l')) (by first | rfl | go_simp) (fun X hX => by have cc := conv_str (SlF.fr0 hyb hX); go_simp) ?_
          simp only [Act.put, List.setIfInBounds_toArray, List.set_cons_zero, List.set_cons_succ]
          refine wpG_one fun K hK => ?_
          go_simp
          refine (rEnc_calls u13 l' _ (SlF.fr0 hsd hfab) hrt hlen).mono ?_
          rintro e wc ⟨rfl, hfc⟩
          refine hK _ _ (hfc) ?_
          clear hK K
          have hfac := hfab.trans0 hfc
          clear hob hyb
          generalize encT l' = E at *
          iterate 13
            refine wpG_pure fun K hK => ?_
            go_simp
            refine hK _ ?_
            clear hK K
          refine wpG_one fun K hK => ?_
          go_simp
          refine (all_calls tz mz l' _ (hZd.fr0 hfac)).mono ?_
          rintro e wd ⟨vd, rfl, hod, hfd⟩
          refine hK _ _ (hfc.trans0 hfd) ?_
          clear hK K
          refine wpG_one fun K hK => ?_
          go_simp
          refine (Same_calls vd u13 l' _ (SlF.of_owns hod) (SlF.fr0 hsd (hfac.trans0 hfd))).mono ?_
          rintro e we ⟨rfl, hfe⟩
          refine hK _ _ ((hfc.trans0 hfd).trans0 hfe) ?_
          clear hK K
          iterate 2
            refine wpG_pure fun K hK => ?_
            go_simp
            refine hK _ ?_
            clear hK K
          refine wpG_end ?_
          go_wp2
          go_ret
          exact ⟨rfl, hFe.trans0 ((hfac.trans0 hfd).trans0 hfe)⟩
theorem TableBytes_any (w : World) (n : Int) (_ : wfI n) (vs : Value) (os : List Opr) (hs : SlO w vs os) (_ : ∀ x ∈ os, wfO x) (vb : Value) (bs : List UInt8) (hb : SlY w vb bs) (hok : okV vb) :
    Calls Try.prog 9 #[.int .i64 n, vs, vb] w fun e w' => e = .returned (.bool true) ∧ Fr [] w w' := by
  by_cases h : 5000 < bs.length ∨ 100 < os.length
  · exact TableBytes_many n vs vb os bs w hs hb h
  · exact TableBytes_few n vs vb os bs w hs hb hok (by omega) (by omega)
end Go.Proofs.Ytknbjdbdpdbeiaa
