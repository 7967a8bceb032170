/-
  law11.DirWrites: the walk.
-/
import Derived.Test.YtiifmakhfpllnaaM33
namespace Go.Proofs.Ytiifmakhfpllnaa
open Go.RowKit Go.Maps
attribute [local go_sem] mapAt_alloc mapAt_setCell mapAt_drew mapAt_drewN cells_str store_str
set_option maxRecDepth 100000 in
set_option maxHeartbeats 3200000 in
theorem DirWrites_any (w : World) (v : Value) (l : List OpD) (hv : SlOD w v l) (hg : ∀ o ∈ l, wfD o) (f : Int) (_ : in64 f) (n : Int) (hn : in64 n) :
    Calls Try.prog 3 #[v, .int .i64 f, .int .i64 n] w fun e w' => e = .returned (.bool true) ∧ Fr [] w w' := by
  obtain ⟨a, cap, rfl, hlc, hcm, _⟩ := hv.open
  unfold maxLen at hcm
  go_enter Try.func3, Try.ntmps3
  go_wp2_with fail
  refine (dNew_calls w).mono ?_
  rintro e w1 ⟨db, mb, rfl, n1, n2, hD, hf⟩
  have hst := StD.made n1 n2 hD hf
  clear hD hf
  go_wp2_with fail
  refine (lFew_calls _ l w1 (SlF.fr0 hv hst.fr)).mono ?_
  rintro e w2 ⟨b, rfl, hf2⟩
  replace hst := hst.keep hf2
  clear hf2
  cases b with
  | false =>
    go_wp2_with fail
    refine (lAlive_calls _).mono ?_
    rintro e w3 ⟨rfl, hf3⟩
    go_wp2
    go_ret
    exact ⟨rfl, hst.fr.trans0 hf3⟩
  | true =>
    go_wp2_with fail
    go_loopw [9, 30] (fun _ i wr => ∃ (k : Nat) (L : List Cel), k ≤ l.length ∧ i = .int .i64 k ∧ StD w wr db mb L) (fun _ i _ => l.length - (intOf i).toNat)
    case atStart => exact ⟨0, [], Nat.zero_le _, rfl, hst⟩
    case round =>
      clear hst
      obtain ⟨k, L, hk, rfl, hst⟩ := hrel
      by_cases hlt : k < l.length
      · obtain ⟨b, off, rfl, hb, cc⟩ := SlOD.at (SlF.fr0 hv hst.fr) hlt
        have hgo := hg _ (getD_mem hlt zOD)
        generalize l.getD k zOD = o at *
        have kD := fun W h => lDoes_calls db mb L o W h hgo
        clear hgo
        obtain ⟨p, s, t, sec, gr, fr, lo, on⟩ := o
        have c0 := cc 0 _ rfl
        have c1 := cc 1 _ rfl
        have c2 := cc 2 _ rfl
        have c3 := cc 3 _ rfl
        have c4 := cc 4 _ rfl
        have c5 := cc 5 _ rfl
        have c6 := cc 6 _ rfl
        have c7 := cc 7 _ rfl
        clear cc
        simp only [Nat.add_zero] at c0
        unfold opdV opdC at kD
        have hst2 := hst.keep ((Fr.refl [] wr).alloc (.cells #[.int .i64 p, strL s, strL t, .int .i64 sec, .int .i64 gr, .int .i64 fr, .int .i64 lo, .bool on] 28))
        have B9 := (Blk.new wr [.int .i64 p, strL s, strL t, .int .i64 sec, .int .i64 gr, .int .i64 fr, .int .i64 lo, .bool on] 28).cell
        go_wp2_with fail
        refine (kD _ hst2.dir).mono ?_
        intro e w3 hp
        obtain ⟨L', rfl, _, hst3⟩ := hst2.does hp
        clear hp kD hst2
        go_wp2
        go_roundw
        case rel => exact ⟨k + 1, L', by omega, by go_num, hst3⟩
        case measure => simp [intOf]; omega
      · have hke : k = l.length := by omega
        subst hke
        go_wp2_with fail
        refine (dWrite_calls db mb L f n _ hst.dir hn).mono ?_
        rintro e w3 ⟨rfl, hD3, hf3⟩
        have hst3 := hst.change hD3 (hf3.mono fun k hk _ => List.mem_cons_of_mem _ hk) (fun k hk => .inl (by rwa [feet_allC] at hk))
        have hok := hst.dir.ok
        have hM : ∀ c ∈ allC L (wrE f n), c.x.on = true → ∀ F N : Nat, f = F → n = N → F + N ≤ c.x.S → ∀ s : Nat, F ≤ s → s < F + N → isB c.x.S c.x.g c.x.l s = true := by
          intro c hc
          obtain ⟨d, hd, rfl⟩ := mem_chC.1 hc
          rw [if_pos rfl]
          intro hon F N hF hN hin s h1 h2
          subst hF; subst hN
          exact wrE_is (ok_of_all hok (List.mem_map.2 ⟨d, hd, rfl⟩)) hon hin h1 h2
        clear hD3 hf3 hst hok hlt hlc
        generalize allC L (wrE f n) = M at *
        have hM8 := hst3.dir.few
        go_wp2_with fail
        refine (Names_calls db mb M _ hst3.dir).mono ?_
        rintro e w4 ⟨nv, rfl, hnv, hf4, _⟩
        replace hst3 := hst3.keep hf4
        obtain ⟨na, nc, rfl⟩ := hnv.cell
        have hnl : (M.map fun c => c.x.name).length = M.length := List.length_map _
        rw [hnl]
        clear hf4
        go_wp2_with fail
        go_loopw [11, 12, 13, 14, 45] (fun _ _ _ _ i wr => ∃ k : Nat, k ≤ M.length ∧ i = .int .i64 k ∧ Fr [] w4 wr) (fun _ _ _ _ i _ => M.length - (intOf i).toNat)
        case atStart => exact ⟨0, Nat.zero_le _, rfl, Fr.refl _ _⟩
        case round =>
          obtain ⟨k, hk, rfl, hF⟩ := hrel
          by_cases hlt : k < M.length
          · have hc : M[k]'hlt ∈ M := List.getElem_mem _
            have hnm : (M.map fun c => c.x.name).getD k [] = (M[k]'hlt).x.name := by
              rw [List.getD_eq_getElem?_getD, List.getElem?_map, List.getElem?_eq_getElem hlt]; rfl
            obtain ⟨nb, noff, rfl, hnb, ccn⟩ := SlT.at (SlF.fr0 hnv hF) (i := k) (by rw [hnl]; exact hlt)
            rw [hnm] at ccn
            have hfc := find_rising hst3.dir.rising hc
            have hMc := hM _ hc
            have hD := hst3.dir.fr0 hF
            have hnr := okName_len (hD.names _ hc)
            have hEc := hD.ents _ hc
            have hS := hEc.bits.size
            generalize M[k]'hlt = c at *
            have hh : Hid (∀ F N : Nat, c.x.on = true → f = F → n = N → F + N ≤ c.x.S → ∀ s : Nat, F ≤ s → s < F + N → isB c.x.S c.x.g c.x.l s = true) := hidIt (fun F N h => hMc h F N)
            clear hMc hEc hM
            go_wp2_with fail
            refine (Get_some db mb M c.x.name c _ hD (by unfold maxLen; omega) hfc).mono ?_
            rintro e w5 ⟨tb, bm, rfl, _, _, hB, hf5⟩
            have hF5 := hF.trans0 hf5
            unfold entV
            have B12 := Blk.new w5 [strL c.x.name, .bool c.x.on, .bool c.x.use, .pointer (some ⟨tb, 0, none⟩)] 36
            have hfa := (Fr.refl [] w5).alloc (.cells #[strL c.x.name, .bool c.x.on, .bool c.x.use, .pointer (some ⟨tb, 0, none⟩)] 36)
            have hF6 := hF5.trans0 hfa
            replace hB := hB.fr0 hfa
            have c12 := B12.cell
            clear hF hf5 hfa hD hF5 hfc ccn hnv
            cases hon : c.x.on with
            | false =>
              rw [hon] at B12 c12 hF6
              go_wp2
              go_roundw
              case rel => exact ⟨k + 1, by omega, by go_num, hF6⟩
              case measure => simp [intOf]; omega
            | true =>
              rw [hon] at B12 c12 hF6 hB
              by_cases hf0 : f < 0
              · go_wp2
                go_roundw
                case rel => exact ⟨k + 1, by omega, by go_num, hF6⟩
                case measure => simp [intOf]; omega
              by_cases hn0 : n < 0
              · go_wp2
                go_roundw
                case rel => exact ⟨k + 1, by omega, by go_num, hF6⟩
                case measure => simp [intOf]; omega
              have hf0' : 0 ≤ f := by omega
              have hn0' : 0 ≤ n := by omega
              by_cases hnS : (c.x.S : Int) < n
              · go_wp2_with fail
                refine (Sectors_calls tb bm c.x.S c.x.g c.x.l _ hB).mono ?_
                rintro e w6 ⟨rfl, rfl⟩
                go_wp2
                go_roundw
                case rel => exact ⟨k + 1, by omega, by go_num, hF6⟩
                case measure => simp [intOf]; omega
              have hnS' : n ≤ (c.x.S : Int) := by omega
              go_wp2_with fail
              refine (Sectors_calls tb bm c.x.S c.x.g c.x.l _ hB).mono ?_
              rintro e w6 ⟨rfl, rfl⟩
              go_wp2_with fail
              refine (Sectors_calls tb bm c.x.S c.x.g c.x.l _ hB).mono ?_
              rintro e w6 ⟨rfl, rfl⟩
              by_cases hfS : (c.x.S : Int) - n < f
              · go_wp2
                go_roundw
                case rel => exact ⟨k + 1, by omega, by go_num, hF6⟩
                case measure => simp [intOf]; omega
              have hfS' : f ≤ (c.x.S : Int) - n := by omega
              have His : ∀ s : Int, f ≤ s → s < f + n → Hid (isB c.x.S c.x.g c.x.l s = true) := fun s h1 h2 => by
                obtain ⟨F, hF⟩ := Int.eq_ofNat_of_zero_le hf0'
                obtain ⟨N, hN⟩ := Int.eq_ofNat_of_zero_le hn0'
                obtain ⟨t, ht⟩ := Int.eq_ofNat_of_zero_le (show 0 ≤ s by omega)
                rw [ht]
                exact hidIt (hh.out F N hon hF hN (by omega) t (by omega) (by omega))
              clear hh
              have hfn4 : f + n ≤ 4096 := by omega
              go_wp2_with fail
              go_loopw [14] (fun i wr => ∃ s : Int, f ≤ s ∧ s ≤ f + n ∧ i = .int .i64 s ∧ Fr [] (w5.alloc (.cells #[strL c.x.name, .bool true, .bool c.x.use, .pointer (some ⟨tb, 0, none⟩)] 36)) wr) (fun i _ => (f + n - intOf i).toNat)
              case atStart => exact ⟨f, by omega, by omega, rfl, Fr.refl _ _⟩
              case round =>
                obtain ⟨s, hs1, hs2, rfl, hF7⟩ := hrel
                by_cases hlt2 : s < f + n
                · have hi := His s hs1 hlt2
                  have c13 := (B12.fr0 hF7).cell
                  clear His c12
                  go_wp2_with fail
                  refine (Is_calls tb bm c.x.S c.x.g c.x.l s _ (hB.fr0 hF7)).mono ?_
                  rintro e w7 ⟨rfl, hf7⟩
                  rw [hi.out]
                  go_wp2
                  go_roundw
                  case rel => exact ⟨s + 1, by omega, by omega, by go_num, hF7.trans0 hf7⟩
                  case measure => simp [intOf]; omega
                · have hF8 := hF6.trans0 hF7
                  clear His
                  go_wp2
                  go_roundw
                  case rel => exact ⟨k + 1, by omega, by go_num, hF8⟩
                  case measure => simp [intOf]; omega
          · go_wp2_with fail
            refine (lAlive_calls _).mono ?_
            rintro e w5 ⟨rfl, hf5⟩
            go_wp2
            go_ret
            exact ⟨rfl, (hst3.fr.trans0 hF).trans0 hf5⟩
end Go.Proofs.Ytiifmakhfpllnaa
