/-
  law11.DirBytes: the walk.
-/
import Derived.Test.YtiifmakhfpllnaaGreatM38
import Derived.Test.YtiifmakhfpllnaaGreatRdC
import Derived.Test.YtiifmakhfpllnaaGreatDirDe
namespace Go.Proofs.YtiifmakhfpllnaaGreat
open Go.RowKit Go.Maps
attribute [local go_sem] mapAt_alloc mapAt_setCell mapAt_drew mapAt_drewN cells_str store_str eql_str neq_str guard_str
theorem names_map (L : List Cel) : (L.map fun c => c.x.name) = (L.map (·.x)).map (·.name) := by rw [List.map_map]; rfl
theorem noUse_names (E : List Ent) : (E.map noUse).map (·.name) = E.map (·.name) := by
  rw [List.map_map]
  exact List.map_congr_left fun x _ => rfl
/-- what is left of the entries when it is written -/
def cleanE (cl : Bool) (E : List Ent) : List Ent := if cl = true then E else E.map noUse
theorem cleanE_enc (cl : Bool) (E : List Ent) : encD E cl = encD (cleanE cl E) true := by
  unfold cleanE
  cases cl with
  | true => rfl
  | false => exact encD_clean E
theorem cleanE_ok (cl : Bool) {E : List Ent} (h : OkD E) : OkD (cleanE cl E) := by
  unfold cleanE
  cases cl with
  | true => exact h
  | false => exact noUse_ok h
theorem cleanE_names (cl : Bool) (E : List Ent) : (cleanE cl E).map (·.name) = E.map (·.name) := by
  unfold cleanE
  cases cl with
  | true => rfl
  | false => exact noUse_names E
set_option maxRecDepth 100000 in
set_option maxHeartbeats 3200000 in
theorem DirBytes_any (w : World) (v : Value) (l : List OpD) (hv : SlOD w v l) (hg : ∀ o ∈ l, wfD o) (cl : Bool) (vb : Value) (bs : List UInt8) (hb : SlY w vb bs) (hbok : okV vb) :
    Calls Tryz.prog 3 #[v, .bool cl, vb] w fun e w' => e = .returned (.bool true) ∧ Fr [] w w' := by
  obtain ⟨a, cap, rfl, hlc, hcm, _⟩ := hv.open
  obtain ⟨ba, bcap, rfl, hblc, hbcm, _⟩ := hb.open
  unfold maxLen at hcm hbcm
  go_enter Tryz.func3, Tryz.ntmps3
  go_wp2_with fail
  refine (dNew_calls w).mono ?_
  rintro e w1 ⟨db, mb, rfl, n1, n2, hD, hf⟩
  have hst := StD.made n1 n2 hD hf
  clear hD hf
  go_wp2_with fail
  refine (lFew_calls _ l w1 (SlF.fr0 hv hst.fr)).mono ?_
  rintro e w2 ⟨b, rfl, hf2⟩
  replace hst := hst.keep hf2
  clear hf2
  cases b with
  | false =>
    go_wp2_with fail
    refine (lAlive_calls _).mono ?_
    rintro e w3 ⟨rfl, hf3⟩
    go_wp2
    go_ret
    exact ⟨rfl, hst.fr.trans0 hf3⟩
  | true =>
    by_cases h1000 : bs.length ≤ 1000
    rotate_left
    · have h1000' : (1000 : Int) < bs.length := by omega
      go_wp2_with fail
      refine (lAlive_calls _).mono ?_
      rintro e w3 ⟨rfl, hf3⟩
      go_wp2
      go_ret
      exact ⟨rfl, hst.fr.trans0 hf3⟩
    have h1000' : ¬ (1000 : Int) < bs.length := by omega
    have hb2 : SlY w2 (.slice ba bs.length bcap) bs := SlF.fr0 hb hst.fr
    go_wp2_with fail
    refine (dDecode_calls _ bs w2 hb2 hbok (by omega)).mono ?_
    rintro e w3 (⟨db2, mb2, L2, henc, huni, rfl, hD2, hn2, hf3⟩ | ⟨hno, rfl, hf3⟩)
    case' inl =>
      have hst3 := hst.keep hf3
      have hcv := conv_str (SlF.fr0 hb2 hf3)
      have kR := rDecodeD_calls bs w3 (by omega)
      have Hok := hidIt hD2.ok
      replace henc := hidIt henc
      replace huni := hidIt huni
      clear hst hf3 hb2 hb
      go_wp2_with fail
      refine kR.mono ?_
      rintro e w4 (⟨v2, P2, hok2, henc2, rfl, hR2, hf4⟩ | ⟨hno, _, _⟩)
      case' inr => exact absurd henc.out (hno _ Hok.out)
      have hst4 := hst3.keep hf4
      have hD4 := hD2.fr0 hf4
      have hPL : P2.map (·.1) = L2.map (·.x) := huni.out _ hok2 henc2
      have kS := lStands_calls db2 mb2 L2 v2 P2 w4 hD4 hR2 hPL
      clear hcv kR henc huni hok2 henc2 hPL hR2 hD4 hD2 hf4 hst3 Hok
      go_wp2_with fail
      refine kS.mono ?_
      rintro e w5 ⟨rfl, hf5⟩
      replace hst4 := hst4.keep hf5
      clear kS hf5
      go_wp2_with fail
    case' inr =>
      have hst3 := hst.keep hf3
      have hcv := conv_str (SlF.fr0 hb2 hf3)
      have kR := rDecodeD_calls bs w3 (by omega)
      replace hno := hidIt hno
      clear hst hf3 hb2 hb
      go_wp2_with fail
      refine kR.mono ?_
      rintro e w4 (⟨v2, P2, hok2, henc2, rfl, hR2, hf4⟩ | ⟨_, rfl, hf4⟩)
      case' inl => exact absurd henc2 (hno.out _ hok2)
      have hst4 := hst3.keep hf4
      clear hcv kR hf4 hst3 hno
      go_wp2_with fail
    all_goals
      have hB : Both w _ db mb [] (.slice none 0 0) [] := ⟨hst4, ⟨Sl.nil _, okH.mk (fun n c h => (by cases h; rfl)) (fun k hk => (by cases hk)), fun p hp => (by cases hp), fun k hk => hst4.dir.lt k hk⟩, rfl⟩
      clear hst4
      go_loopw [12, 15, 79] (fun u _ i wr => ∃ (k : Nat) (L : List Cel) (P : List (Ent × Value)), k ≤ l.length ∧ i = .int .i64 k ∧ Both w wr db mb L u P) (fun _ _ i _ => l.length - (intOf i).toNat)
      case atStart => exact ⟨0, [], [], Nat.zero_le _, rfl, hB⟩
      case round =>
        clear hB
        obtain ⟨k, L, P, hk, rfl, hB⟩ := hrel
        by_cases hlt : k < l.length
        · obtain ⟨b0, off, rfl, hb0, cc⟩ := SlOD.at (SlF.fr0 hv hB.st.fr) hlt
          have hgo := hg _ (getD_mem hlt zOD)
          generalize l.getD k zOD = o at *
          have kD := fun W h => lDoes_calls db mb L o W h hgo
          have kR := fun H W h => rDoD_calls (H := H) u12 P o W h (by rw [hB.same]; exact hB.st.dir.ok) hgo
          have hPs := hB.same
          simp only [hPs] at kR
          clear hgo hPs
          obtain ⟨p, s1, t1, sec, gr, fr, lo, on⟩ := o
          have c0 := cc 0 _ rfl
          have c1 := cc 1 _ rfl
          have c2 := cc 2 _ rfl
          have c3 := cc 3 _ rfl
          have c4 := cc 4 _ rfl
          have c5 := cc 5 _ rfl
          have c6 := cc 6 _ rfl
          have c7 := cc 7 _ rfl
          clear cc
          simp only [Nat.add_zero] at c0
          unfold opdV opdC at kD kR
          have B9 := Blk.new wr [.int .i64 p, strL s1, strL t1, .int .i64 sec, .int .i64 gr, .int .i64 fr, .int .i64 lo, .bool on] 36
          have hB2 := hB.keep ((Fr.refl [] wr).alloc (.cells #[.int .i64 p, strL s1, strL t1, .int .i64 sec, .int .i64 gr, .int .i64 fr, .int .i64 lo, .bool on] 36))
          have b9 := B9.cell
          have hb9 : ∀ k ∈ homes db mb L, k < wr.heap.size := fun k hk => hB.st.dir.lt k hk
          clear hB
          go_wp2_with fail
          refine (kR (homes db mb L) _ hB2.ref).mono ?_
          rintro e w3 ⟨u', P', rfl, hR3, hP3, hf3⟩
          have hst3 := hB2.st.keep hf3
          have B93 := B9.fr0 hf3
          have b93 := B93.cell
          clear kR hB2 hf3 B9 b9
          go_wp2_with fail
          refine (kD _ hst3.dir).mono ?_
          intro e w4 hp
          obtain ⟨L1, e1, hL1, hD1, hch, hf4⟩ := hp
          subst e1
          have hL1' : L1.map (·.x) = (runD (L.map (·.x)) ⟨p, s1, t1, sec, gr, fr, lo, on⟩).1 := hL1
          rw [← hL1'] at hP3
          have hst4 := hst3.change hD1 hf4 hch
          have hz3 : wr.heap.size ≤ w3.heap.size := by have := B93.lt; simp at *; omega
          have hR4 : RefE (homes db mb L1) w4 u' P' := hR3.fr hf4 (fun k hk => .inl (List.mem_cons_of_mem _ hk)) (fun k hk => by
            refine ⟨?_, hst4.dir.lt k hk⟩
            simp only [homes, List.mem_cons] at hk ⊢
            rcases hk with rfl | rfl | hk
            · exact .inl (.inl rfl)
            · exact .inl (.inr (.inl rfl))
            · rcases hch k hk with h | h
              · exact .inl (.inr (.inr h))
              · exact .inr h)
          have hB4 : Both w w4 db mb L1 u' P' := ⟨hst4, hR4, hP3⟩
          clear hL1 hL1' hD1 hch hf4 hst4 hR4 hR3 hP3 hst3 kD B93 b93
          go_wp2
          go_roundw
          case rel => exact ⟨k + 1, L1, P', by omega, by go_num, hB4⟩
          case measure => simp [intOf]; omega
        · have hke : k = l.length := by omega
          subst hke
          clear hlt hlc hv hg
          obtain ⟨ua, uc, rfl, _⟩ := hB.ref.sl.open
          have hok := hB.st.dir.ok
          have hsame := hB.same
          have hNm : Hid (((cleanE cl (L.map (·.x))).map (·.name)) = L.map fun c => c.x.name) := hidIt (by rw [cleanE_names, names_map])
          go_wp2_with fail
          refine (dEncode_calls db mb L cl _ hB.st.dir).mono ?_
          rintro e w3 ⟨bv, rfl, hbo, hf3⟩
          have hsy : SlY w3 bv (encD (L.map (·.x)) cl) := SlF.of_owns hbo
          have hbok2 := okV.of_owns hbo
          have hlen := encD_len hok cl
          have hB3 := hB.keep hf3
          clear hbo hf3 hB
          go_wp2_with fail
          refine (dDecode_calls bv _ w3 hsy hbok2 (by omega)).mono ?_
          rintro e w4 (⟨db3, mb3, L3, henc3, huni3, rfl, hD3, hn3, hf4⟩ | ⟨hno3, _, _⟩)
          case' inr => exact absurd (cleanE_enc cl _).symm (hno3 _ (cleanE_ok cl hok))
          have hL3 : L3.map (·.x) = cleanE cl (L.map (·.x)) := (huni3 _ (cleanE_ok cl hok) (cleanE_enc cl _).symm).symm
          have hB4 := hB3.keep hf4
          have HL3 := hidIt hL3
          have HS := hidIt hsame
          have hdr := (Fr.refl [] w4).drew
          have kR := fun X (h : Fr [] w4 X) => rEncodeD_calls _ P cl X (hB4.ref.fr0 h) (by rw [hsame]; exact hok)
          rw [hsame] at kR
          have hEE : decide (encD (L.map (·.x)) cl = encD (L.map (·.x)) cl) = true := decide_eq_true rfl
          have h8 := hB4.st.dir.few
          clear hsy hbok2 hlen hB3 henc3 huni3 hn3 hf4 hL3 hsame hok
          go_wp2_with fail
          refine wp_region_G (Fr [] w4.drew) [(true, 0), (true, 1), (true, 4), (true, 5), (false, 2), (true, 3), (false, 6), (true, 7), (true, 8), (true, 9), (true, 10), (true, 11), (true, 12), (true, 13), (true, 14), (true, 15)] (by as_aux_lemma => kernel_rfl) (by as_aux_lemma => kernel_rfl) (Fr.refl _ _) ?_
          simp only [inOrder, List.map_cons, List.map_nil, List.getD_cons_zero, List.getD_cons_succ]
          iterate 4
            refine wpG_pure fun K hK => ?_
            go_simp
            refine hK _ ?_
            clear hK K
          refine wpG_oneS fun K hK => ?_
          go_simp
          refine (dEncode_calls db mb L cl _ (hB4.st.dir.fr0 hdr)).mono ?_
          rintro e wb ⟨vb2, rfl, hob, hfb⟩
          have hyb : SlY wb vb2 (encD (L.map (·.x)) cl) := SlF.of_owns hob
          refine hK (Fr [] wb) (fun X hX => hfb.trans0 hX) _ _ (Fr.refl _ _) ?_
          clear hK K
          refine wpG_val (strL (encD (L.map (·.x)) cl)) (by first | rfl | go_simp) (fun X hX => by have cc := conv_str (SlF.fr0 hyb hX); go_simp) ?_
          simp only [Act.put, List.setIfInBounds_toArray, List.set_cons_zero, List.set_cons_succ]
          refine wpG_one fun K hK => ?_
          go_simp
          refine (kR _ (hdr.trans0 hfb)).mono ?_
          rintro e wc ⟨rfl, hfc⟩
          refine hK _ _ (hfc) ?_
          clear hK K
          iterate 9
            refine wpG_pure fun K hK => ?_
            go_simp
            refine hK _ ?_
            clear hK K
          refine wpG_end ?_
          have hFx := (hdr.trans0 hfb).trans0 hfc
          have hB5 := hB4.keep hFx
          have hD5 := hD3.fr0 hFx
          clear hyb hob hfb hfc hFx hB4 hD3 kR hEE hdr
          go_wp2_with fail
          refine (lAlive_calls _).mono ?_
          rintro e w6 ⟨rfl, hf6⟩
          have hB6 := hB5.keep hf6
          have hD6 := hD5.fr0 hf6
          clear hB5 hD5 hf6
          have h83 := hD6.few
          cases cl with
          | true =>
            have kS := lStands_calls db3 mb3 L3 _ P w6 hD6 hB6.ref (by rw [HL3.out, HS.out]; rfl)
            go_wp2_with fail
            refine kS.mono ?_
            rintro e w7 ⟨rfl, hf7⟩
            have hB7 := hB6.keep hf7
            have hD7 := hD6.fr0 hf7
            clear kS hB6 hD6 hf7
            go_wp2_with fail
            refine (Names_calls db3 mb3 L3 _ hD7).mono ?_
            rintro e w8 ⟨nv, rfl, hnv, hf8, _⟩
            have hB8 := hB7.keep hf8
            go_wp2_with fail
            refine (Names_calls db mb L _ hB8.st.dir).mono ?_
            rintro e w9 ⟨nv2, rfl, hnv2, hf9, _⟩
            have hB9 := hB8.keep hf9
            have hnv' := SlF.fr0 hnv hf9
            have e1 : (L3.map fun c => c.x.name) = L.map fun c => c.x.name := by rw [names_map, HL3.out]; exact hNm.out
            rw [e1] at hnv'
            clear hnv hf8 hf9 hB8 hB7 hD7 e1
            go_wp2_with fail
            refine (SameTexts_calls nv nv2 _ _ hnv' hnv2 (by rw [List.length_map]; omega)).mono ?_
            rintro e w10 ⟨rfl, hf10⟩
            go_wp2
            go_ret
            exact ⟨rfl, hB9.st.fr.trans0 hf10⟩
          | false =>
            go_wp2_with fail
            refine (Names_calls db3 mb3 L3 _ hD6).mono ?_
            rintro e w8 ⟨nv, rfl, hnv, hf8, _⟩
            have hB8 := hB6.keep hf8
            go_wp2_with fail
            refine (Names_calls db mb L _ hB8.st.dir).mono ?_
            rintro e w9 ⟨nv2, rfl, hnv2, hf9, _⟩
            have hB9 := hB8.keep hf9
            have hnv' := SlF.fr0 hnv hf9
            have e1 : (L3.map fun c => c.x.name) = L.map fun c => c.x.name := by rw [names_map, HL3.out]; exact hNm.out
            rw [e1] at hnv'
            clear hnv hf8 hf9 hB8 hB6 hD6 e1
            go_wp2_with fail
            refine (SameTexts_calls nv nv2 _ _ hnv' hnv2 (by rw [List.length_map]; omega)).mono ?_
            rintro e w10 ⟨rfl, hf10⟩
            go_wp2
            go_ret
            exact ⟨rfl, hB9.st.fr.trans0 hf10⟩
end Go.Proofs.YtiifmakhfpllnaaGreat
