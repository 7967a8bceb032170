/-
  law11.DirCopies: the walk.
-/
import Derived.Test.YtiifmakhfpllnaaM33
namespace Go.Proofs.Ytiifmakhfpllnaa
open Go.RowKit Go.Maps
attribute [local go_sem] mapAt_alloc mapAt_setCell mapAt_drew mapAt_drewN cells_str store_str eql_str neq_str guard_str
set_option maxRecDepth 100000 in
set_option maxHeartbeats 3200000 in
theorem DirCopies_any (w : World) (v : Value) (l : List OpD) (hv : SlOD w v l) (hg : ∀ o ∈ l, wfD o) (v2 : Value) (l2 : List OpD) (hv2 : SlOD w v2 l2) (hg2 : ∀ o ∈ l2, wfD o) :
    Calls Try.prog 5 #[v, v2] w fun e w' => e = .returned (.bool true) ∧ Fr [] w w' := by
  obtain ⟨a, cap, rfl, hlc, hcm, _⟩ := hv.open
  unfold maxLen at hcm
  go_enter Try.func5, Try.ntmps5
  go_wp2_with fail
  refine (dNew_calls w).mono ?_
  rintro e w1 ⟨db, mb, rfl, n1, n2, hD, hf⟩
  have hst := StD.made n1 n2 hD hf
  clear hD hf
  go_wp2_with fail
  refine (lFew_calls _ l w1 (SlF.fr0 hv hst.fr)).mono ?_
  rintro e w2 ⟨b, rfl, hf2⟩
  replace hst := hst.keep hf2
  clear hf2
  cases b with
  | false =>
    go_wp2_with fail
    refine (lAlive_calls _).mono ?_
    rintro e w3 ⟨rfl, hf3⟩
    go_wp2
    go_ret
    exact ⟨rfl, hst.fr.trans0 hf3⟩
  | true =>
    go_wp2_with fail
    refine (lFew_calls v2 l2 w2 (SlF.fr0 hv2 hst.fr)).mono ?_
    rintro e w3 ⟨b2, rfl, hf3⟩
    replace hst := hst.keep hf3
    clear hf3
    cases b2 with
    | false =>
      go_wp2_with fail
      refine (lAlive_calls _).mono ?_
      rintro e w4 ⟨rfl, hf4⟩
      go_wp2
      go_ret
      exact ⟨rfl, hst.fr.trans0 hf4⟩
    | true =>
      go_wp2_with fail
      go_loopw [7, 32] (fun _ i wr => ∃ (k : Nat) (L : List Cel), k ≤ l.length ∧ i = .int .i64 k ∧ StD w wr db mb L) (fun _ i _ => l.length - (intOf i).toNat)
      case atStart => exact ⟨0, [], Nat.zero_le _, rfl, hst⟩
      case round =>
        clear hst
        obtain ⟨k, L, hk, rfl, hst⟩ := hrel
        by_cases hlt : k < l.length
        · obtain ⟨b, off, rfl, hb, cc⟩ := SlOD.at (SlF.fr0 hv hst.fr) hlt
          have hgo := hg _ (getD_mem hlt zOD)
          generalize l.getD k zOD = o at *
          have kD := fun W h => lDoes_calls db mb L o W h hgo
          clear hgo
          obtain ⟨p, s1, t1, sec, gr, fr, lo, on⟩ := o
          have c0 := cc 0 _ rfl
          have c1 := cc 1 _ rfl
          have c2 := cc 2 _ rfl
          have c3 := cc 3 _ rfl
          have c4 := cc 4 _ rfl
          have c5 := cc 5 _ rfl
          have c6 := cc 6 _ rfl
          have c7 := cc 7 _ rfl
          clear cc
          simp only [Nat.add_zero] at c0
          unfold opdV opdC at kD
          have hst2 := hst.keep ((Fr.refl [] wr).alloc (.cells #[.int .i64 p, strL s1, strL t1, .int .i64 sec, .int .i64 gr, .int .i64 fr, .int .i64 lo, .bool on] 28))
          have B9 := (Blk.new wr [.int .i64 p, strL s1, strL t1, .int .i64 sec, .int .i64 gr, .int .i64 fr, .int .i64 lo, .bool on] 28).cell
          go_wp2_with fail
          refine (kD _ hst2.dir).mono ?_
          intro e w3 hp
          obtain ⟨L', rfl, _, hst3⟩ := hst2.does hp
          clear hp kD hst2
          go_wp2
          go_roundw
          case rel => exact ⟨k + 1, L', by omega, by go_num, hst3⟩
          case measure => simp [intOf]; omega
        · have hke : k = l.length := by omega
          subst hke
          clear hlt hlc hv hg
          obtain ⟨a2, cap2, rfl, hlc2, hcm2, _⟩ := hv2.open
          unfold maxLen at hcm2
          go_wp2_with fail
          refine (dEncode_calls db mb L true _ hst.dir).mono ?_
          rintro e w3 ⟨bv, rfl, hbo, hf3⟩
          have hcv := conv_str (SlF.of_owns hbo)
          replace hst := hst.keep hf3
          generalize hE : encD (L.map (·.x)) true = E at *
          have HE := hidIt hE
          clear hE hbo hf3
          go_wp2_with fail
          refine (dCopy_calls db mb L _ hst.dir).mono ?_
          rintro e w4 ⟨db2, mb2, L2, rfl, hL2, hD2, hn2, hf4⟩
          have hst2 : StD w3 w4 db2 mb2 L2 := ⟨hD2, hn2, hf4⟩
          clear hcv hD2 hn2 hf4
          go_wp2_with fail
          refine (dEncode_calls db2 mb2 L2 true _ hst2.dir).mono ?_
          rintro e w5 ⟨bv2, rfl, hbo2, hf5⟩
          rw [hL2, HE.out] at hbo2
          have hcv := conv_str (SlF.of_owns hbo2)
          replace hst2 := hst2.keep hf5
          clear hbo2 hf5 hL2
          have hEE : decide (E = E) = true := decide_eq_true rfl
          go_wp2_with fail
          go_loopw [11, 56] (fun _ i wr => ∃ (k : Nat) (L3 : List Cel), k ≤ l2.length ∧ i = .int .i64 k ∧ StD w3 wr db2 mb2 L3) (fun _ i _ => l2.length - (intOf i).toNat)
          case atStart => exact ⟨0, L2, Nat.zero_le _, rfl, hst2⟩
          case round =>
            clear hst2 hcv
            obtain ⟨k, L3, hk, rfl, hst2'⟩ := hrel
            by_cases hlt : k < l2.length
            · obtain ⟨b, off, rfl, hb, cc⟩ := SlOD.at (SlF.fr0 (SlF.fr0 hv2 hst.fr) hst2'.fr) hlt
              have hgo := hg2 _ (getD_mem hlt zOD)
              generalize l2.getD k zOD = o at *
              have kD := fun W h => lDoes_calls db2 mb2 L3 o W h hgo
              clear hgo
              obtain ⟨p, s1, t1, sec, gr, fr, lo, on⟩ := o
              have c0 := cc 0 _ rfl
              have c1 := cc 1 _ rfl
              have c2 := cc 2 _ rfl
              have c3 := cc 3 _ rfl
              have c4 := cc 4 _ rfl
              have c5 := cc 5 _ rfl
              have c6 := cc 6 _ rfl
              have c7 := cc 7 _ rfl
              clear cc
              simp only [Nat.add_zero] at c0
              unfold opdV opdC at kD
              have hst2 := hst2'.keep ((Fr.refl [] wr).alloc (.cells #[.int .i64 p, strL s1, strL t1, .int .i64 sec, .int .i64 gr, .int .i64 fr, .int .i64 lo, .bool on] 28))
              have B9 := (Blk.new wr [.int .i64 p, strL s1, strL t1, .int .i64 sec, .int .i64 gr, .int .i64 fr, .int .i64 lo, .bool on] 28).cell
              go_wp2_with fail
              refine (kD _ hst2.dir).mono ?_
              intro e w3 hp
              obtain ⟨L', rfl, _, hst3⟩ := hst2.does hp
              clear hp kD hst2
              go_wp2
              go_roundw
              case rel => exact ⟨k + 1, L', by omega, by go_num, hst3⟩
              case measure => simp [intOf]; omega
            · have hst3 := hst.keep hst2'.fr
              go_wp2_with fail
              refine (lAlive_calls _).mono ?_
              rintro e w6 ⟨rfl, hf6⟩
              replace hst3 := hst3.keep hf6
              go_wp2_with fail
              refine (dEncode_calls db mb L true _ hst3.dir).mono ?_
              rintro e w7 ⟨bv3, rfl, hbo3, hf7⟩
              rw [HE.out] at hbo3
              have hcv := conv_str (SlF.of_owns hbo3)
              clear hbo3 hf6
              go_wp2
              go_ret
              exact ⟨rfl, hst3.fr.trans0 hf7⟩
end Go.Proofs.Ytiifmakhfpllnaa
