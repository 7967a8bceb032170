/-
  law11.DirUnclean: the walk.
-/
import Derived.Test.YtiifmakhfpllnaaM33
import Derived.Test.YtiifmakhfpllnaaDirDe
namespace Go.Proofs.Ytiifmakhfpllnaa
open Go.RowKit Go.Maps
attribute [local go_sem] mapAt_alloc mapAt_setCell mapAt_drew mapAt_drewN cells_str store_str
theorem clr_cnt {x : Ent} (_ : OkE x) : cnt (clrE x).l = 0 := by
  have h1 : insideB x.S (0 : Int) (x.S : Int) := ⟨by omega, by omega, by omega, by omega⟩
  have h2 : (clrE x).l = bClear x.S x.g x.l 0 x.S := by
    unfold clrE doS
    simp [h1]
  rw [h2]
  unfold cnt
  rw [List.length_eq_zero_iff, List.filter_eq_nil_iff]
  intro k hk
  have hk : k < x.l.length := by simpa [bClear] using hk
  rw [bClear_getD hk]
  have : allB x.S x.g 0 x.S k = true := by simp only [allB, Bool.and_eq_true, decide_eq_true_eq]; omega
  rw [this]; simp
theorem drop_one {M : List Cel} (hr : Rising M) {k : Nat} (hk : k < M.length) (f : Ent → Ent) : (oneC M (M[k]'hk).x.name f).drop (k + 1) = M.drop (k + 1) := by
  unfold oneC chC
  rw [← List.map_drop]
  refine (List.map_congr_left fun d hd => ?_).trans (List.map_id _)
  have hd2 := List.drop_eq_getElem_cons hk
  unfold Rising at hr
  have hr2 := hr.sublist (List.drop_sublist k M)
  rw [hd2, List.pairwise_cons] at hr2
  have hlt := hr2.1 d hd
  rw [if_neg (by
    intro e
    have e : d.x.name = (M[k]'hk).x.name := by simpa using e
    rw [e] at hlt
    exact List.lt_irrefl _ hlt)]
  rfl
theorem oneC_names (M : List Cel) (s : List UInt8) {f : Ent → Ent} (hf : ∀ x, (f x).name = x.name) : (oneC M s f).map (fun c => c.x.name) = M.map fun c => c.x.name := by
  unfold oneC chC
  rw [List.map_map]
  exact List.map_congr_left fun d _ => chC_name (p := fun t => decide (t = s)) hf d
set_option maxRecDepth 100000 in
set_option maxHeartbeats 3200000 in
theorem DirUnclean_any (w : World) (v : Value) (l : List OpD) (hv : SlOD w v l) (hg : ∀ o ∈ l, wfD o) :
    Calls Try.prog 8 #[v] w fun e w' => e = .returned (.bool true) ∧ Fr [] w w' := by
  obtain ⟨a, cap, rfl, hlc, hcm, _⟩ := hv.open
  unfold maxLen at hcm
  go_enter Try.func8, Try.ntmps8
  go_wp2_with fail
  refine (dNew_calls w).mono ?_
  rintro e w1 ⟨db, mb, rfl, n1, n2, hD, hf⟩
  have hst := StD.made n1 n2 hD hf
  clear hD hf
  go_wp2_with fail
  refine (lFew_calls _ l w1 (SlF.fr0 hv hst.fr)).mono ?_
  rintro e w2 ⟨b, rfl, hf2⟩
  replace hst := hst.keep hf2
  clear hf2
  cases b with
  | false =>
    go_wp2_with fail
    refine (lAlive_calls _).mono ?_
    rintro e w3 ⟨rfl, hf3⟩
    go_wp2
    go_ret
    exact ⟨rfl, hst.fr.trans0 hf3⟩
  | true =>
    go_wp2_with fail
    go_loopw [5, 30] (fun _ i wr => ∃ (k : Nat) (L : List Cel), k ≤ l.length ∧ i = .int .i64 k ∧ StD w wr db mb L) (fun _ i _ => l.length - (intOf i).toNat)
    case atStart => exact ⟨0, [], Nat.zero_le _, rfl, hst⟩
    case round =>
      clear hst
      obtain ⟨k, L, hk, rfl, hst⟩ := hrel
      by_cases hlt : k < l.length
      · obtain ⟨b, off, rfl, hb, cc⟩ := SlOD.at (SlF.fr0 hv hst.fr) hlt
        have hgo := hg _ (getD_mem hlt zOD)
        generalize l.getD k zOD = o at *
        have kD := fun W h => lDoes_calls db mb L o W h hgo
        clear hgo
        obtain ⟨p, s1, t1, sec, gr, fr, lo, on⟩ := o
        have c0 := cc 0 _ rfl
        have c1 := cc 1 _ rfl
        have c2 := cc 2 _ rfl
        have c3 := cc 3 _ rfl
        have c4 := cc 4 _ rfl
        have c5 := cc 5 _ rfl
        have c6 := cc 6 _ rfl
        have c7 := cc 7 _ rfl
        clear cc
        simp only [Nat.add_zero] at c0
        unfold opdV opdC at kD
        have hst2 := hst.keep ((Fr.refl [] wr).alloc (.cells #[.int .i64 p, strL s1, strL t1, .int .i64 sec, .int .i64 gr, .int .i64 fr, .int .i64 lo, .bool on] 28))
        have B9 := (Blk.new wr [.int .i64 p, strL s1, strL t1, .int .i64 sec, .int .i64 gr, .int .i64 fr, .int .i64 lo, .bool on] 28).cell
        go_wp2_with fail
        refine (kD _ hst2.dir).mono ?_
        intro e w3 hp
        obtain ⟨L', rfl, _, hst3⟩ := hst2.does hp
        clear hp kD hst2
        go_wp2
        go_roundw
        case rel => exact ⟨k + 1, L', by omega, by go_num, hst3⟩
        case measure => simp [intOf]; omega
      · have hke : k = l.length := by omega
        subst hke
        clear hlt hlc hv hg
        go_wp2_with fail
        refine (dEncode_calls db mb L false _ hst.dir).mono ?_
        rintro e w3 ⟨bv, rfl, hbo, hf3⟩
        have hsy : SlY w3 bv (encD (L.map (·.x)) false) := SlF.of_owns hbo
        have hbok := okV.of_owns hbo
        have hok := hst.dir.ok
        have hlen := encD_len hok false
        replace hst := hst.keep hf3
        clear hbo hf3
        go_wp2_with fail
        refine (dDecode_calls bv _ w3 hsy hbok (by omega)).mono ?_
        rintro e w4 (⟨db2, mb2, L2, henc, huni, rfl, hD4, hn4, hf4⟩ | ⟨hno, _, _⟩)
        rotate_left
        · exact absurd (encD_clean _).symm (hno _ (noUse_ok hok))
        have hL2 : L2.map (·.x) = (L.map (·.x)).map noUse := (huni _ (noUse_ok hok) (encD_clean _).symm).symm
        have huse : ∀ c ∈ L2, c.x.use = false := fun c hc => by
          have h1 : c.x ∈ L2.map (·.x) := List.mem_map.2 ⟨c, hc, rfl⟩
          rw [hL2] at h1
          obtain ⟨d, _, hd⟩ := List.mem_map.1 h1
          rw [← hd]
          rfl
        have hst4 : StD w w4 db2 mb2 L2 := ⟨hD4, fun k hk => by have := hn4 k hk; have := hst.fr.size; omega, hst.fr.trans0 hf4⟩
        clear hsy hbok hok hlen hst hD4 hn4 hf4 hL2 huni henc
        have h8 := hst4.dir.few
        go_wp2_with fail
        refine (Names_calls db2 mb2 L2 _ hst4.dir).mono ?_
        rintro e w5 ⟨nv, rfl, hnv, hf5, hnw⟩
        have hst5 := hst4.keep hf5
        obtain ⟨na, nc, rfl⟩ := hnv.cell
        have hnl : (L2.map fun c => c.x.name).length = L2.length := List.length_map _
        have hlt4 : ∀ k ∈ homes db2 mb2 L2, k < w4.heap.size := hst4.dir.lt
        rw [hnl]
        clear hf5 hst4
        go_wp2_with fail
        go_loopw [9, 10, 11, 12, 13, 14, 53] (fun _ _ _ _ _ _ i wr => ∃ (k : Nat) (M : List Cel), k ≤ L2.length ∧ i = .int .i64 k ∧ DirW wr db2 mb2 M ∧ feet M = feet L2 ∧ (M.map fun c => c.x.name) = (L2.map fun c => c.x.name) ∧ M.drop k = L2.drop k ∧ Fr (feet L2) w5 wr) (fun _ _ _ _ _ _ i _ => L2.length - (intOf i).toNat)
        case atStart => exact ⟨0, L2, Nat.zero_le _, rfl, hst5.dir, rfl, rfl, rfl, Fr.refl _ _⟩
        case round =>
          obtain ⟨k, M, hk, rfl, hD, hft, hnm, hdr, hF⟩ := hrel
          have hF5 : Fr [] w wr := hst5.fr.trans hF (fun y hy hl => by have := hst5.new y (by simp [homes, hy]); omega)
          have hML : M.length = L2.length := by have := congrArg List.length hnm; simpa using this
          by_cases hlt : k < L2.length
          · have hltM : k < M.length := by omega
            have hc : M[k]'hltM ∈ M := List.getElem_mem _
            have hd1 := drop_one hD.rising hltM clrE
            have hd2 : M[k]'hltM = L2[k]'hlt := by
              have h1 := List.drop_eq_getElem_cons hltM
              have h2 := List.drop_eq_getElem_cons hlt
              rw [hdr, h2] at h1
              exact (List.cons.inj h1).1.symm
            have hd3 : M.drop (k + 1) = L2.drop (k + 1) := by
              rw [← List.drop_drop, ← List.drop_drop, hdr]
            have hgn : (L2.map fun c => c.x.name).getD k [] = (M[k]'hltM).x.name := by
              rw [hd2, List.getD_eq_getElem?_getD, List.getElem?_map, List.getElem?_eq_getElem hlt]; rfl
            have hus : (M[k]'hltM).x.use = false := by rw [hd2]; exact huse _ (List.getElem_mem _)
            obtain ⟨nb, noff, rfl, hnb, ccn0⟩ := SlT.at hnv (i := k) (by rw [hnl]; exact hlt)
            rw [hgn] at ccn0
            have ccn : wr.cell? ⟨nb, noff + k, none⟩ = some (strL (M[k]'hltM).x.name) := by
              rw [World.cell?_of_block (hF.block nb hnb (fun hx => by have := hlt4 nb (by simp [homes, hx]); have := hnw nb rfl; omega))]; exact ccn0
            have hfc := find_rising hD.rising hc
            have hnr := okName_len (hD.names _ hc)
            have hok := hD.ok.all _ (List.mem_map.2 ⟨_, hc, rfl⟩)
            have hcz := clr_cnt hok
            rw [hd3] at hd1
            clear ccn0 hgn hd2 hd3 hdr hnv hok
            generalize M[k]'hltM = c at *
            have hsl : c.x.name.length ≤ maxLen := by unfold maxLen; omega
            have Hus := hidIt hus
            clear hus
            go_wp2_with fail
            refine (Get_some db2 mb2 M c.x.name c _ hD hsl hfc).mono ?_
            rintro e w6 ⟨tb, bm, rfl, _, _, _, hf6⟩
            have hD6 := hD.fr0 hf6
            have hz6 := hf6.size
            unfold entV
            have B10 := Blk.new w6 [strL c.x.name, .bool c.x.on, .bool c.x.use, .pointer (some ⟨tb, 0, none⟩)] 36
            have hfa := (Fr.refl [] w6).alloc (.cells #[strL c.x.name, .bool c.x.on, .bool c.x.use, .pointer (some ⟨tb, 0, none⟩)] 36)
            have hD7 := hD6.fr0 hfa
            have hF7 := (hF.trans0 hf6).trans0 hfa
            have hlt6 : ∀ k ∈ feet M, k < w6.heap.size := fun k hk => hD6.lt k (by simp [homes, hk])
            clear hf6 hfa hD6 hD hF ccn
            go_wp2_with fail
            refine (dClear_calls db2 mb2 M c.x.name _ hD7 hsl).mono ?_
            rintro e w8 ⟨rfl, hD8, hf8⟩
            have B10' := B10.fr hf8 (fun hx => by have := hlt6 _ hx; omega)
            have hF8 : Fr (feet L2) w5 w8 := hF7.trans' (by rw [hft] at hf8; exact hf8)
            have h0 : dn (findC M c.x.name) = 0 := by rw [hfc]; rfl
            rw [h0]
            have hfc8 : findC (oneC M c.x.name clrE) c.x.name = some (c.on clrE) := by
              unfold oneC
              rw [find_chC (f := clrE) (fun _ => rfl), hfc]
              simp
            have hft8 := feet_oneC M c.x.name clrE
            have hnm8 := oneC_names M c.x.name (f := clrE) (fun _ => rfl)
            rw [hnm] at hnm8
            rw [hft] at hft8
            have hnx : (c.on clrE).x = ⟨c.x.name, c.x.on, true, (clrE c.x).S, c.x.g, (clrE c.x).l⟩ := rfl
            clear h0 hD7 hF7 hf8 hfc B10 hlt6
            go_wp2_with fail
            refine (Get_some db2 mb2 _ c.x.name _ _ hD8 hsl hfc8).mono ?_
            rintro e w9 ⟨tb9, bm9, rfl, _, _, hB9, hf9⟩
            rw [hnx] at hB9
            rw [hnx]
            simp only at hB9 hcz
            generalize (clrE c.x).S = S9 at *
            generalize (clrE c.x).l = l9 at *
            have hD9 := hD8.fr0 hf9
            unfold entV
            simp only
            have B13 := Blk.new w9 [strL c.x.name, .bool c.x.on, .bool true, .pointer (some ⟨tb9, 0, none⟩)] 36
            have hfa := (Fr.refl [] w9).alloc (.cells #[strL c.x.name, .bool c.x.on, .bool true, .pointer (some ⟨tb9, 0, none⟩)] 36)
            have B10b := (B10'.fr0 hf9).fr0 hfa
            have hB10 := hB9.fr0 hfa
            have hD10 := hD9.fr0 hfa
            have hF10 := (hF8.trans0 hf9).trans0 hfa
            rw [Hus.out] at B10b
            have c10 := B10b.cell
            have c13 := B13.cell
            clear hf9 hfa hD9 hD8 hF8 hB9 B10' hnx hfc8
            have Hd1 := hidIt hd1
            have Hft := hidIt hft8
            have Hnm := hidIt hnm8
            clear hd1 hft8 hnm8
            generalize oneC M c.x.name clrE = M2 at *
            go_wp2_with fail
            refine (Count_calls tb9 bm9 S9 c.x.g l9 _ hB10).mono ?_
            rintro e w11 ⟨rfl, rfl⟩
            rw [hcz]
            cases hon : c.x.on with
            | false =>
              rw [hon] at c10 c13 hD10 hF10
              go_wp2
              go_roundw
              case rel => exact ⟨k + 1, M2, by omega, by go_num, hD10, Hft.out, Hnm.out, Hd1.out, hF10⟩
              case measure => simp [intOf]; omega
            | true =>
              rw [hon] at c10 c13 hD10 hF10
              go_wp2
              go_roundw
              case rel => exact ⟨k + 1, M2, by omega, by go_num, hD10, Hft.out, Hnm.out, Hd1.out, hF10⟩
              case measure => simp [intOf]; omega
          · go_wp2_with fail
            refine (lAlive_calls _).mono ?_
            rintro e w6 ⟨rfl, hf6⟩
            go_wp2
            go_ret
            exact ⟨rfl, hF5.trans0 hf6⟩
end Go.Proofs.Ytiifmakhfpllnaa
