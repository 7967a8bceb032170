/-
  law10.BitsBytes: the walk.
-/
import Derived.Test.YtfmolbgfhchdkaaBitRd
import Derived.Test.YtfmolbgfhchdkaaBitEn
import Derived.Test.YtfmolbgfhchdkaaBitY
import Derived.Test.YtfmolbgfhchdkaaBitN
import Derived.Test.YtfmolbgfhchdkaaBitM
import Derived.Test.YtfmolbgfhchdkaaOpenY
namespace Go.Proofs.Ytfmolbgfhchdkaa
open Go.RowKit Go.Maps
attribute [local go_sem] eql_str neq_str guard_str

set_option maxRecDepth 100000 in
theorem rCount_calls (S g : Nat) (u : Value) (l : List Bool) (w : World) (hu : SlB w u l) (hl : l.length ≤ 4096) : Calls Try.prog 28 #[rb S g u] w fun e w' => e = .returned (.int .i64 (cnt l)) ∧ Fr [] w w' := by
  obtain ⟨a, cap, rfl, _, _, _⟩ := hu.open
  have hfa := (Fr.refl [] w).alloc (.cells #[.int .i64 S, .int .i64 g, .slice a l.length cap] 28)
  have B1 := Blk.new w [.int .i64 S, .int .i64 g, .slice a l.length cap] 28
  have hstep : ∀ k, ((List.range (k + 1)).filter fun i => l.getD i false).length = ((List.range k).filter fun i => l.getD i false).length + (if l.getD k false then 1 else 0) := fun k => by
    rw [List.range_succ, List.filter_append, List.length_append, List.filter_cons, List.filter_nil]
    split <;> rfl
  have hle : ∀ k, ((List.range k).filter fun i => l.getD i false).length ≤ k := fun k => Nat.le_trans (List.length_filter_le _ _) (by simp)
  have Hc : Hid (cnt l = ((List.range l.length).filter fun i => l.getD i false).length) := hidIt rfl
  have H0 : Hid (((List.range 0).filter fun i => l.getD i false).length = 0) := hidIt rfl
  unfold rb
  generalize hC : (fun k => ((List.range k).filter fun i => l.getD i false).length) = C
  have Hs : ∀ k, Hid (C (k + 1) = C k + (if l.getD k false then 1 else 0)) := fun k => hidIt (by rw [← hC]; exact hstep k)
  have Hl : ∀ k, C k ≤ k := fun k => by rw [← hC]; exact hle k
  replace Hc : Hid (cnt l = C l.length) := hidIt (by rw [← hC]; exact Hc.out)
  replace H0 : Hid (C 0 = 0) := hidIt (by rw [← hC]; rfl)
  clear hC hstep hle
  go_enter Try.func28, Try.ntmps28
  go_wp2
  go_loopw [3, 4] (fun n i wr => ∃ k : Nat, k ≤ l.length ∧ i = .int .i64 (k : Int) ∧ n = .int .i64 ((C k : Nat) : Int) ∧ Blk wr w.heap.size [.int .i64 S, .int .i64 g, .slice a l.length cap] 28 ∧ Fr [] w wr) (fun _ i _ => l.length - (intOf i).toNat)
  case atStart => exact ⟨0, Nat.zero_le _, rfl, by rw [H0.out]; rfl, B1, hfa⟩
  case round =>
    obtain ⟨k, hk, rfl, rfl, B1, hF⟩ := hrel
    have c := B1.cell
    by_cases hlt : k < l.length
    · obtain ⟨b, off, rfl, hb, d0⟩ := SlB.at (SlF.fr0 hu hF) hlt
      have hs := Hs k
      have hlk := Hl k
      clear Hs Hl H0
      generalize l.getD k false = q at *
      generalize C k = X at *
      cases q
      · go_wp2
        go_roundw
        case rel => exact ⟨k + 1, by omega, by go_num, by rw [hs.out]; simp, B1, hF⟩
        case measure => simp [intOf]; omega
      · go_wp2
        go_roundw
        case rel => exact ⟨k + 1, by omega, by go_num, by rw [hs.out]; simp, B1, hF⟩
        case measure => simp [intOf]; omega
    · have hke : Hid (k = l.length) := hidIt (by omega)
      clear Hs Hl H0
      go_wp2
      go_ret
      exact ⟨by rw [Hc.out, ← hke.out]; rfl, hF⟩
set_option maxRecDepth 100000 in
set_option maxHeartbeats 6400000 in
theorem BitsBytes_many (n : Int) (vs vb : Value) (bs : List UInt8) (w : World) (hb : SlY w vb bs) (h : 1000 < bs.length) :
    Calls Try.prog 8 #[.int .i64 n, vs, vb] w fun e w' => e = .returned (.bool true) ∧ Fr [] w w' := by
  obtain ⟨a', cap', rfl, _, _, _⟩ := hb.open
  have h1' : (1000 : Int) < bs.length := by omega
  go_enter Try.func8, Try.ntmps8
  go_wp2_with fail
  refine (alive_calls _).mono ?_
  rintro e w1 ⟨rfl, hf⟩
  go_wp2
  go_ret
  exact ⟨rfl, hf⟩
set_option maxRecDepth 100000 in
set_option maxHeartbeats 6400000 in
theorem BitsBytes_few (n : Int) (vs vb : Value) (os : List Op3) (bs : List UInt8) (w : World) (hs : SlP w vs os) (hgd : ∀ o ∈ os, goodOp o) (hb : SlY w vb bs) (hok : okV vb) (h1 : bs.length ≤ 1000) :
    Calls Try.prog 8 #[.int .i64 n, vs, vb] w fun e w' => e = .returned (.bool true) ∧ Fr [] w w' := by
  obtain ⟨a', cap', rfl, _, hcm', _⟩ := hb.open
  have h1' : ¬ (1000 : Int) < bs.length := by omega
  have kD := bDec_calls _ bs w hb hok (by omega)
  go_enter Try.func8, Try.ntmps8
  go_wp2_with fail
  refine kD.mono ?_
  rintro e w1 hD
  have hf1 : Fr [] w w1 := by
    rcases hD with ⟨_, _, _, _, _, _, _, _, _, _, _, hf⟩ | ⟨_, _, hf⟩ <;> exact hf
  have hcv1 := conv_str (w := w1) (l := bs) (SlF.fr0 hb hf1)
  have kR := rbDec_calls bs w1
  rcases hD with ⟨S, g, l, tb, mb, hgd1, he, rfl, ht, hm, hT, _⟩ | ⟨hno, rfl, _⟩
  case' inl =>
    go_wp2_with fail
    refine kR.mono ?_
    rintro e w2 (⟨S', g', l', u, hg', he', rfl, hRf, hf2⟩ | ⟨hno, rfl, hf2⟩)
    case' inr => exact absurd he (hno S g l hgd1)
    obtain ⟨rfl, rfl, rfl⟩ := encB_inj hgd1 hg' (he.trans he'.symm)
    obtain ⟨_, hru, hsu, hoku⟩ := hRf.row
    cases hru
    have hF2 := hf1.trans0 hf2
    have hT2 := hT.fr0 hf2
    obtain ⟨au, cu, rfl, _⟩ := SlF.open hsu
    have hsm := goodB_small hgd1
    have hbd2 : SlY w2 _ bs := SlF.fr0 hb hF2
    have hgl : l.length ≤ 4096 := by omega
    clear hgd1 hg' he' hT kR kD hcv1 hf2 hf1 hRf ht hm hsm
    subst he
    unfold rb
    go_wp2_with fail
    have B9 := Blk.new w2 [.int .i64 S, .int .i64 g, .slice au l.length cu] 28
    have hf9 := ((Fr.refl [] w2).alloc (.cells #[.int .i64 S, .int .i64 g, .slice au l.length cu] 28)).drew
    have B9d := B9.drew
    have hTd := hT2.fr0 hf9
    have hsd := SlF.fr0 hsu hf9
    have hbd := SlF.fr0 hbd2 hf9
    have hFd := hF2.trans0 hf9
    generalize (w2.alloc (.cells #[.int .i64 S, .int .i64 g, .slice au l.length cu] 28)) = w3 at *
    clear hf9 B9 hT2 hF2 hsu hbd2
    refine wp_region_G (Fr [] w3.drew) [(true, 0), (true, 1), (true, 2), (true, 3), (true, 4), (true, 5), (true, 6), (true, 7), (true, 8), (true, 9), (true, 10), (true, 11), (true, 12), (true, 13), (true, 14), (true, 15), (true, 16), (true, 17), (true, 18), (true, 19), (true, 20), (true, 21), (true, 22), (true, 25), (true, 26), (false, 23), (true, 24), (true, 27), (true, 28), (true, 29), (true, 30), (true, 32), (false, 31), (false, 33), (true, 34), (true, 35), (true, 36), (true, 37)] (by as_aux_lemma => kernel_rfl) (by as_aux_lemma => kernel_rfl) (Fr.refl _ _) ?_
    simp only [inOrder, List.map_cons, List.map_nil, List.getD_cons_zero, List.getD_cons_succ]
    iterate 24
      refine wpG_pure fun K hK => ?_
      go_simp
      refine hK _ ?_
      clear hK K
    refine wpG_val (strL (encB S g l)) (by first | rfl | go_simp) (fun X hX => by have cc := conv_str (SlF.fr0 hbd hX); go_simp) ?_
    simp only [Act.put, List.setIfInBounds_toArray, List.set_cons_zero, List.set_cons_succ]
    refine wpG_oneS fun K hK => ?_
    go_simp
    refine (EncodeB_calls tb mb S g l _ hTd).mono ?_
    rintro e wb ⟨vb, rfl, hob, hfb⟩
    have hyb : SlY wb vb (encB S g l) := SlF.of_owns hob
    refine hK (Fr [] wb) (fun X hX => hfb.trans0 hX) _ _ (Fr.refl _ _) ?_
    clear hK K
    refine wpG_val (strL (encB S g l)) (by first | rfl | go_simp) (fun X hX => by have cc := conv_str (SlF.fr0 hyb hX); go_simp) ?_
    simp only [Act.put, List.setIfInBounds_toArray, List.set_cons_zero, List.set_cons_succ]
    clear hob
    iterate 4
      refine wpG_pure fun K hK => ?_
      go_simp
      refine hK _ ?_
      clear hK K
    refine wpG_val (.agg #[.int .i64 S, .int .i64 g, .slice au l.length cu]) (by first | rfl | go_simp) (fun X hX => by have cc := ((B9d.fr0 hfb).fr0 hX).cell; go_simp) ?_
    simp only [Act.put, List.setIfInBounds_toArray, List.set_cons_zero, List.set_cons_succ]
    refine wpG_one fun K hK => ?_
    go_simp
    refine (Count_calls tb mb S g l _ (hTd.fr0 hfb)).mono ?_
    rintro e wc ⟨rfl, rfl⟩
    refine hK _ _ (Fr.refl _ _) ?_
    clear hK K
    have kC := rCount_calls S g (.slice au l.length cu) l _ (SlF.fr0 hsd hfb) hgl
    unfold rb at kC
    refine wpG_one fun K hK => ?_
    go_simp
    refine (kC).mono ?_
    rintro e ww ⟨rfl, hfd⟩
    refine hK _ _ (hfd) ?_
    clear hK K
    iterate 4
      refine wpG_pure fun K hK => ?_
      go_simp
      refine hK _ ?_
      clear hK K
    refine wpG_end ?_
    have hF5 := (hFd.trans0 hfb).trans0 hfd
    clear hyb hTd hsd hbd hFd hfb hfd B9d kC
    clear hgl
    go_wp2_with fail
  case' inr =>
    go_wp2_with fail
    refine kR.mono ?_
    rintro e w2 (⟨S', g', l', u, hg', he', rfl, hsu, hf2⟩ | ⟨_, rfl, hf2⟩)
    case' inl => exact absurd he' (hno S' g' l' hg')
    have hF2 := hf1.trans0 hf2
    clear kR kD hcv1 hno hf2 hf1
    unfold z0
    go_wp2_with fail
    have hF5 := (hF2.alloc (.cells #[.int .i64 0, .int .i64 0, .slice none 0 0] 28)).drew
    generalize w2.alloc (.cells #[.int .i64 0, .int .i64 0, .slice none 0 0] 28) = w3 at *
    clear hF2
    refine wp_region_G (Fr [] w3.drew) [(true, 0), (true, 1), (true, 2), (true, 3), (true, 4), (true, 5), (true, 6), (true, 7), (true, 8), (true, 9), (true, 10), (true, 11), (true, 12), (true, 13), (true, 14), (true, 15), (true, 16), (true, 17), (true, 18), (true, 19), (true, 20), (true, 21), (true, 22), (true, 25), (true, 26), (false, 23), (true, 24), (true, 27), (true, 28), (true, 29), (true, 30), (true, 32), (false, 31), (false, 33), (true, 34), (true, 35), (true, 36), (true, 37)] (by as_aux_lemma => kernel_rfl) (by as_aux_lemma => kernel_rfl) (Fr.refl _ _) ?_
    simp only [inOrder, List.map_cons, List.map_nil, List.getD_cons_zero, List.getD_cons_succ]
    iterate 25
      refine wpG_pure fun K hK => ?_
      go_simp
      refine hK _ ?_
      clear hK K
    iterate 1
      refine wpG_one fun K hK => ?_
      go_simp
      rw [if_neg (by unfold undef; simp)]
      clear hK K
    iterate 6
      refine wpG_pure fun K hK => ?_
      go_simp
      refine hK _ ?_
      clear hK K
    iterate 2
      refine wpG_one fun K hK => ?_
      go_simp
      rw [if_neg (by unfold undef; simp)]
      clear hK K
    iterate 4
      refine wpG_pure fun K hK => ?_
      go_simp
      refine hK _ ?_
      clear hK K
    refine wpG_end ?_
    generalize w3.drew = ww at *
    go_wp2_with fail
  all_goals
    have B71 := Blk.new ww [.int .i64 1, .int .i64 2, .int .i64 8] 3
    have hF71 := hF5.alloc (.cells #[.int .i64 1, .int .i64 2, .int .i64 8] 3)
    have hwz := hF5.size
    clear hF5
    go_loopw [73] (fun i wr => ∃ k : Nat, k ≤ 3 ∧ i = .int .i64 (k : Int) ∧ Blk wr ww.heap.size [.int .i64 1, .int .i64 2, .int .i64 8] 3 ∧ Fr [] w wr) (fun i _ => 3 - (intOf i).toNat)
    case atStart => exact ⟨0, by omega, rfl, B71, hF71⟩
    case round =>
      clear B71 hF71
      obtain ⟨k, hk, rfl, B71, hF⟩ := hrel
      by_cases hlt : k < 3
      · have hcell : ∃ gg : Nat, wr.cell? ⟨ww.heap.size, k, none⟩ = some (.int .i64 (gg : Int)) ∧ pow2 (gg : Int) = true := by
          have hc := B71.cell k
          rcases (by omega : k = 0 ∨ k = 1 ∨ k = 2) with rfl | rfl | rfl
          · exact ⟨1, hc, rfl⟩
          · exact ⟨2, hc, rfl⟩
          · exact ⟨8, hc, rfl⟩
        obtain ⟨gg, hc, hpw⟩ := hcell
        have l71 := B71.lt
        have hlt' : (k : Int) < 3 := by omega
        have hs1 : SlP wr vs os := SlF.fr0 hs hF
        cases hmk : okSec n && fewS n os with
        | false =>
          have kM : Calls Try.prog 10 #[.int .i64 n, .int .i64 (gg : Int), vs] wr fun e w' => ∃ rv, e = .returned (.tuple #[.pointer none, rv, .bool false]) ∧ someBits rv ∧ Fr [] wr w' := by
            cases hsec : okSec n with
            | false => exact (made_new n gg vs wr (by simp [okNew, hsec])).mono (fun e w' ⟨he, hf⟩ => ⟨_, he, someBits.z, hf⟩)
            | true => exact made_few n gg vs os wr (by simp [okNew, hsec, hpw]) hs1 (by simpa [hsec] using hmk)
          go_wp2_with fail
          refine kM.mono ?_
          rintro e w6 ⟨rv, rfl, ⟨x, y, a, nn, c, rfl⟩, hf6⟩
          go_wp2_with fail
          refine (alive_calls _).mono ?_
          rintro e w7 ⟨rfl, hf7⟩
          go_wp2
          go_ret
          exact ⟨rfl, ((hF.trans0 hf6).alloc _).trans0 hf7⟩
        | true =>
          have hm2 : okSec n = true ∧ fewS n os = true := by simpa using hmk
          have kM := made_yes n gg vs os wr (by simp [okNew, hm2.1, hpw]) hs1 hm2.2 hgd
          unfold madePost at kM
          rw [Int.toNat_natCast] at kM
          generalize (stOf n (gg : Int) os).1 = S at *
          generalize (stOf n (gg : Int) os).2 = l at *
          go_wp2_with fail
          refine kM.mono ?_
          rintro e w6 ⟨tb, mb, rv, rfl, hT, hRf, ht, hm, hf6⟩
          obtain ⟨_, hru, hsu, hoku⟩ := hRf.row
          cases hru
          obtain ⟨au, cu, rfl, _⟩ := SlF.open hsu
          have hgood : goodB S gg l := ⟨hRf.size, hRf.grain, hRf.len⟩
          have hsm := goodB_small hgood
          unfold rb
          have B14 := Blk.new w6 [.int .i64 S, .int .i64 gg, .slice au l.length cu] 28
          have hf14 := (Fr.refl [] w6).alloc (.cells #[.int .i64 S, .int .i64 gg, .slice au l.length cu] 28)
          have hT6 := hT.fr0 hf14
          have hs6 := SlF.fr0 hsu hf14
          have hF6 := (hF.trans0 hf6).trans0 hf14
          have B71' := (B71.fr0 hf6).fr0 hf14
          clear hT hsu hF hf6 hf14 B71 kM hRf
          go_wp2_with fail
          refine (EncodeB_calls tb mb S gg l _ hT6).mono ?_
          rintro e w8 ⟨v8, rfl, hown8, hf8⟩
          have hy8 : SlY w8 v8 (encB S gg l) := SlF.of_owns hown8
          go_wp2_with fail
          refine (bDec_calls v8 (encB S gg l) _ hy8 (okV.of_owns hown8) (by rw [encB_length]; unfold nbB; omega)).mono ?_
          rintro e w9 (⟨S', g', l', tz, mz, hg', he', rfl, _, _, hZ, hf9⟩ | ⟨hno, _⟩)
          case' inr => exact absurd rfl (hno S gg l hgood)
          obtain ⟨rfl, rfl, rfl⟩ := encB_inj hgood hg' he'.symm
          have hf89 := hf8.trans0 hf9
          have hT9 := hT6.fr0 hf89
          have hs9 := SlF.fr0 hs6 hf89
          have B9 := B14.fr0 hf89
          have B719 := B71'.fr0 hf89
          have hF9 := hF6.trans0 hf89
          have hFd : Fr [] w9 w9.drew := (Fr.refl _ _).drew
          have hTd := hT9.fr0 hFd
          have hZd := hZ.fr0 hFd
          have hsd := SlF.fr0 hs9 hFd
          have B9d := B9.fr0 hFd
          have B71d := B719.fr0 hFd
          have hFe := hF9.trans0 hFd
          clear hT6 hs6 hF6 hown8 hf8 hy8 hf9 hf89 hT9 hs9 hF9 hFd hZ hg' he' B14 B71' B9 B719
          go_wp2_with fail
          refine wp_region_G (Fr [] w9.drew) [(true, 0), (true, 3), (false, 1), (true, 2), (false, 4), (true, 5), (true, 6), (true, 7), (true, 8), (true, 9), (true, 10), (true, 11), (true, 12), (true, 13), (true, 14), (true, 15), (true, 16), (false, 17), (true, 18), (true, 19), (true, 20), (true, 21), (true, 22), (false, 23), (true, 24), (true, 25)] (by as_aux_lemma => kernel_rfl) (by as_aux_lemma => kernel_rfl) (Fr.refl _ _) ?_
          simp only [inOrder, List.map_cons, List.map_nil, List.getD_cons_zero, List.getD_cons_succ]
          iterate 1
            refine wpG_pure fun K hK => ?_
            go_simp
            refine hK _ ?_
            clear hK K
          refine wpG_val (.agg #[.int .i64 S, .int .i64 gg, .slice au l.length cu]) (by first | rfl | go_simp) (fun X hX => by have cc := (B9d.fr0 hX).cell; go_simp) ?_
          simp only [Act.put, List.setIfInBounds_toArray, List.set_cons_zero, List.set_cons_succ]
          refine wpG_oneS fun K hK => ?_
          go_simp
          refine (EncodeB_calls tb mb S gg l _ hTd).mono ?_
          rintro e wb ⟨vb, rfl, hob, hfb⟩
          have hyb : SlY wb vb (encB S gg l) := SlF.of_owns hob
          refine hK (Fr [] wb) (fun X hX => hfb.trans0 hX) _ _ (Fr.refl _ _) ?_
          clear hK K
          refine wpG_val (strL (encB S gg l)) (by first | rfl | go_simp) (fun X hX => by have cc := conv_str (SlF.fr0 hyb hX); go_simp) ?_
          simp only [Act.put, List.setIfInBounds_toArray, List.set_cons_zero, List.set_cons_succ]
          clear hob
          have kE := rEncodeB_calls S gg (.slice au l.length cu) l _ (SlF.fr0 hsd hfb) hgood.1 (by omega) (by omega)
          unfold rb at kE
          refine wpG_one fun K hK => ?_
          go_simp
          refine (kE).mono ?_
          rintro e wc ⟨rfl, hfc⟩
          refine hK _ _ (hfc) ?_
          clear hK K
          clear kE hyb
          have hfbc := hfb.trans0 hfc
          iterate 12
            refine wpG_pure fun K hK => ?_
            go_simp
            refine hK _ ?_
            clear hK K
          refine wpG_one fun K hK => ?_
          go_simp
          refine (Same_like tz mz S gg tb mb l l _ (hZd.fr0 hfbc) (hTd.fr0 hfbc)).mono ?_
          rintro e wd ⟨rfl, hfd⟩
          refine hK _ _ (hfc.trans0 hfd) ?_
          clear hK K
          have hfbd := hfbc.trans0 hfd
          iterate 5
            refine wpG_pure fun K hK => ?_
            go_simp
            refine hK _ ?_
            clear hK K
          refine wpG_one fun K hK => ?_
          go_simp
          refine (Same_like tb mb S gg tz mz l l _ (hTd.fr0 hfbd) (hZd.fr0 hfbd)).mono ?_
          rintro e we ⟨rfl, hfe⟩
          refine hK _ _ ((hfc.trans0 hfd).trans0 hfe) ?_
          clear hK K
          iterate 2
            refine wpG_pure fun K hK => ?_
            go_simp
            refine hK _ ?_
            clear hK K
          refine wpG_end ?_
          go_wp2
          go_roundw
          case rel => exact ⟨k + 1, by omega, by go_num, B71d.fr0 (hfbd.trans0 hfe), hFe.trans0 (hfbd.trans0 hfe)⟩
          case measure => simp [intOf]; omega
      · have hke : k = 3 := by omega
        subst hke
        go_wp2_with fail
        refine (alive_calls _).mono ?_
        rintro e w7 ⟨rfl, hf7⟩
        go_wp2
        go_ret
        exact ⟨rfl, hF.trans0 hf7⟩
theorem BitsBytes_any (w : World) (n : Int) (_ : wfI n) (vs : Value) (os : List Op3) (hs : SlP w vs os) (hw : ∀ o ∈ os, wf3 o) (vb : Value) (bs : List UInt8) (hb : SlY w vb bs) (hok : okV vb) :
    Calls Try.prog 8 #[.int .i64 n, vs, vb] w fun e w' => e = .returned (.bool true) ∧ Fr [] w w' := by
  by_cases h : 1000 < bs.length
  · exact BitsBytes_many n vs vb bs w hb h
  · exact BitsBytes_few n vs vb os bs w hs (fun o ho => ⟨(hw o ho).2.2, (hw o ho).2.1⟩) hb hok (by omega)
end Go.Proofs.Ytfmolbgfhchdkaa
