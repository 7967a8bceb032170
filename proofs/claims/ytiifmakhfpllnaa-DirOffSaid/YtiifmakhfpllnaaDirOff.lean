/-
  law11.DirOff: the walk.
-/
import Derived.Test.YtiifmakhfpllnaaM33
namespace Go.Proofs.Ytiifmakhfpllnaa
open Go.RowKit Go.Maps
attribute [local go_sem] mapAt_alloc mapAt_setCell mapAt_drew mapAt_drewN cells_str store_str
set_option maxRecDepth 100000 in
set_option maxHeartbeats 3200000 in
theorem DirOff_any (w : World) (v : Value) (l : List OpD) (hv : SlOD w v l) (hg : ∀ o ∈ l, wfD o) (s : List UInt8) (hs : s.length ≤ maxLen) (v2 : Value) (l2 : List OpD) (hv2 : SlOD w v2 l2) (hg2 : ∀ o ∈ l2, wfD o) :
    Calls Try.prog 6 #[v, strL s, v2] w fun e w' => e = .returned (.bool true) ∧ Fr [] w w' := by
  obtain ⟨a, cap, rfl, hlc, hcm, _⟩ := hv.open
  unfold maxLen at hcm
  obtain ⟨a2, cap2, rfl, hlc2, hcm2, _⟩ := hv2.open
  unfold maxLen at hcm2
  go_enter Try.func6, Try.ntmps6
  go_wp2_with fail
  refine (dNew_calls w).mono ?_
  rintro e w1 ⟨db, mb, rfl, n1, n2, hD, hf⟩
  have hst := StD.made n1 n2 hD hf
  clear hD hf
  go_wp2_with fail
  refine (lFew_calls _ l w1 (SlF.fr0 hv hst.fr)).mono ?_
  rintro e w2 ⟨b, rfl, hf2⟩
  replace hst := hst.keep hf2
  clear hf2
  cases b with
  | false =>
    go_wp2_with fail
    refine (lAlive_calls _).mono ?_
    rintro e w3 ⟨rfl, hf3⟩
    go_wp2
    go_ret
    exact ⟨rfl, hst.fr.trans0 hf3⟩
  | true =>
    by_cases h50 : (50 : Int) < l2.length
    · go_wp2_with fail
      refine (lAlive_calls _).mono ?_
      rintro e w3 ⟨rfl, hf3⟩
      go_wp2
      go_ret
      exact ⟨rfl, hst.fr.trans0 hf3⟩
    go_wp2_with fail
    go_loopw [9, 36] (fun _ i wr => ∃ (k : Nat) (L : List Cel), k ≤ l.length ∧ i = .int .i64 k ∧ StD w wr db mb L) (fun _ i _ => l.length - (intOf i).toNat)
    case atStart => exact ⟨0, [], Nat.zero_le _, rfl, hst⟩
    case round =>
      clear hst
      obtain ⟨k, L, hk, rfl, hst⟩ := hrel
      by_cases hlt : k < l.length
      · obtain ⟨b, off, rfl, hb, cc⟩ := SlOD.at (SlF.fr0 hv hst.fr) hlt
        have hgo := hg _ (getD_mem hlt zOD)
        generalize l.getD k zOD = o at *
        have kD := fun W h => lDoes_calls db mb L o W h hgo
        clear hgo
        obtain ⟨p, s1, t1, sec, gr, fr, lo, on⟩ := o
        have c0 := cc 0 _ rfl
        have c1 := cc 1 _ rfl
        have c2 := cc 2 _ rfl
        have c3 := cc 3 _ rfl
        have c4 := cc 4 _ rfl
        have c5 := cc 5 _ rfl
        have c6 := cc 6 _ rfl
        have c7 := cc 7 _ rfl
        clear cc
        simp only [Nat.add_zero] at c0
        unfold opdV opdC at kD
        have hst2 := hst.keep ((Fr.refl [] wr).alloc (.cells #[.int .i64 p, strL s1, strL t1, .int .i64 sec, .int .i64 gr, .int .i64 fr, .int .i64 lo, .bool on] 28))
        have B9 := (Blk.new wr [.int .i64 p, strL s1, strL t1, .int .i64 sec, .int .i64 gr, .int .i64 fr, .int .i64 lo, .bool on] 28).cell
        go_wp2_with fail
        refine (kD _ hst2.dir).mono ?_
        intro e w3 hp
        obtain ⟨L', rfl, _, hst3⟩ := hst2.does hp
        clear hp kD hst2
        go_wp2
        go_roundw
        case rel => exact ⟨k + 1, L', by omega, by go_num, hst3⟩
        case measure => simp [intOf]; omega
      · have hke : k = l.length := by omega
        subst hke
        clear hlt hlc hv hg
        go_wp2_with fail
        refine (Switch_calls db mb L s false _ hst.dir hs).mono ?_
        rintro e w3 ⟨rfl, hD3, hf3⟩
        have hst3 := hst.change hD3 (hf3.mono fun k hk _ => List.mem_cons_of_mem _ hk) (fun k hk => .inl (by rwa [feet_oneC] at hk))
        cases hc : findC L s with
        | none =>
          have h0 : dn (none : Option Cel) = 112 := rfl
          rw [h0]
          go_wp2_with fail
          refine (lAlive_calls _).mono ?_
          rintro e w4 ⟨rfl, hf4⟩
          go_wp2
          go_ret
          exact ⟨rfl, hst3.fr.trans0 hf4⟩
        | some c =>
          have h0 : dn (some c) = 0 := rfl
          rw [h0]
          obtain ⟨hcm2, hcn⟩ := findC_mem hc
          have hM : findC (oneC L s (onE false)) s = some (c.on (onE false)) := by
            unfold oneC
            rw [find_chC (f := onE false) (fun _ => rfl), hc]
            simp [hcn]
          have hoff : (c.on (onE false)).x.on = false := rfl
          clear hD3 hf3 hst hc hcm2 hcn h0
          generalize oneC L s (onE false) = M at *
          generalize c.on (onE false) = c at *
          have hW3lt : ∀ k ∈ feet M, k < w3.heap.size := fun k hk => hst3.dir.lt k (by simp [homes, hk])
          go_wp2_with fail
          refine (Get_some db mb M s c _ hst3.dir hs hM).mono ?_
          rintro e w4 ⟨tb, bm, rfl, n3, n4, hB, hf4⟩
          replace hst3 := hst3.keep hf4
          unfold entV
          have B10 := Blk.new w4 [strL c.x.name, .bool c.x.on, .bool c.x.use, .pointer (some ⟨tb, 0, none⟩)] 36
          have hfa := (Fr.refl [] w4).alloc (.cells #[strL c.x.name, .bool c.x.on, .bool c.x.use, .pointer (some ⟨tb, 0, none⟩)] 36)
          replace hst3 := hst3.keep hfa
          have hB10 := hB.fr0 hfa
          have hlB := hB10.lt
          have hft : ∀ k ∈ feet M, k < w3.heap.size := hW3lt
          have hz34 := hf4.size
          clear hfa hf4 hB
          generalize hx : c.x = x at *
          have Hoff := hidIt hoff
          clear hoff
          have Hx := hidIt hx
          clear hx
          go_wp2_with fail
          generalize w4.alloc (.cells #[strL x.name, .bool x.on, .bool x.use, .pointer (some ⟨tb, 0, none⟩)] 36) = w5 at *
          go_loopw [13, 57] (fun _ i wr => ∃ (k : Nat) (M2 : List Cel) (d : Cel), k ≤ l2.length ∧ i = .int .i64 k ∧ DirW wr db mb M2 ∧ feet M2 = feet M ∧ findC M2 s = some d ∧ d.x = x ∧ Fr (feet M) w5 wr) (fun _ i _ => l2.length - (intOf i).toNat)
          case atStart => exact ⟨0, M, c, Nat.zero_le _, rfl, hst3.dir, rfl, hM, Hx.out, Fr.refl _ _⟩
          case round =>
            obtain ⟨k, M2, d, hk, rfl, hD, hft2, hd, hdx, hF⟩ := hrel
            have hF5 : Fr [] w wr := hst3.fr.trans hF (fun y hy hl => by have := hst3.new y (by simp [homes, hy]); omega)
            by_cases hlt : k < l2.length
            · obtain ⟨b, off, rfl, hb, cc⟩ := SlOD.at (SlF.fr0 hv2 hF5) hlt
              have hgo := hg2 _ (getD_mem hlt zOD)
              generalize l2.getD k zOD = o at *
              obtain ⟨p, s1, t1, sec, gr, fr, lo, on⟩ := o
              have c0 := cc 0 _ rfl
              have c1 := cc 1 _ rfl
              have c2 := cc 2 _ rfl
              have c3 := cc 3 _ rfl
              have c4 := cc 4 _ rfl
              have c5 := cc 5 _ rfl
              have c6 := cc 6 _ rfl
              have c7 := cc 7 _ rfl
              clear cc
              simp only [Nat.add_zero] at c0
              have hfa := (Fr.refl [] wr).alloc (.cells #[.int .i64 p, strL s1, strL t1, .int .i64 sec, .int .i64 gr, .int .i64 fr, .int .i64 lo, .bool on] 28)
              have B9 := (Blk.new wr [.int .i64 p, strL s1, strL t1, .int .i64 sec, .int .i64 gr, .int .i64 fr, .int .i64 lo, .bool on] 28).cell
              have hD2 := hD.fr0 hfa
              have hlo : in64 lo := hgo.2.2.2.2.1
              have hdx2 : (d.on (wrE fr lo)).x = x := by
                show wrE fr lo d.x = x
                unfold wrE
                rw [hdx, Hoff.out]
                simp
              have hd2 : findC (allC M2 (wrE fr lo)) s = some (d.on (wrE fr lo)) := by
                unfold allC
                rw [find_chC (wrE_name fr lo), hd]
                rfl
              clear hgo
              go_wp2_with fail
              refine (dWrite_calls db mb M2 fr lo _ hD2 hlo).mono ?_
              rintro e w6 ⟨rfl, hD6, hf6⟩
              rw [hft2] at hf6
              go_wp2
              go_roundw
              case rel => exact ⟨k + 1, _, _, by omega, by go_num, hD6, by rw [feet_allC]; exact hft2, hd2, hdx2, (hF.trans0 hfa).trans' hf6⟩
              case measure => simp [intOf]; omega
            · have B10' := B10.fr hF (fun hx => by have := hft _ hx; omega)
              have hB10' := hB10.fr hF (fun hx => by have := hft _ hx; omega) (fun hx => by have := hft _ hx; omega)
              clear B10 hB10
              go_wp2_with fail
              refine (Get_some db mb M2 s d _ hD hs hd).mono ?_
              rintro e w6 ⟨tb6, bm6, rfl, _, _, hB6, hf6⟩
              rw [hdx] at hB6
              rw [hdx]
              unfold entV
              have B11 := Blk.new w6 [strL x.name, .bool x.on, .bool x.use, .pointer (some ⟨tb6, 0, none⟩)] 36
              have hfa := (Fr.refl [] w6).alloc (.cells #[strL x.name, .bool x.on, .bool x.use, .pointer (some ⟨tb6, 0, none⟩)] 36)
              have B12 := (B10'.fr0 hf6).fr0 hfa
              have hB12 := (hB10'.fr0 hf6).fr0 hfa
              have hB13 := hB6.fr0 hfa
              have hF6 := (hF5.trans0 hf6).trans0 hfa
              clear hfa hf6 hB6 hF5
              go_wp2_with fail
              refine (lAlive_calls _).mono ?_
              rintro e w7 ⟨rfl, hf7⟩
              have c12 := (B12.fr0 hf7).cell
              have c11 := (B11.fr0 hf7).cell
              have key := Same_like tb bm x.S x.g tb6 bm6 x.l x.l _ (hB12.fr0 hf7) (hB13.fr0 hf7)
              rw [decide_eq_true rfl] at key
              go_wp2_with fail
              refine key.mono ?_
              rintro e w8 ⟨rfl, hf8⟩
              go_wp2
              go_ret
              exact ⟨rfl, (hF6.trans0 hf7).trans0 hf8⟩
end Go.Proofs.Ytiifmakhfpllnaa
