/-
  law11.DirOwn: the walk.
-/
import Derived.Test.YtiifmakhfpllnaaM33
namespace Go.Proofs.Ytiifmakhfpllnaa
open Go.RowKit Go.Maps
attribute [local go_sem] mapAt_alloc mapAt_setCell mapAt_drew mapAt_drewN cells_str store_str
set_option maxRecDepth 100000 in
set_option maxHeartbeats 3200000 in
theorem DirOwn_any (w : World) (v : Value) (l : List OpD) (hv : SlOD w v l) (hg : ∀ o ∈ l, wfD o) (s : List UInt8) (hs : s.length ≤ maxLen) :
    Calls Try.prog 7 #[v, strL s] w fun e w' => e = .returned (.bool true) ∧ Fr [] w w' := by
  obtain ⟨a, cap, rfl, hlc, hcm, _⟩ := hv.open
  unfold maxLen at hcm
  go_enter Try.func7, Try.ntmps7
  go_wp2_with fail
  refine (dNew_calls w).mono ?_
  rintro e w1 ⟨db, mb, rfl, n1, n2, hD, hf⟩
  have hst := StD.made n1 n2 hD hf
  clear hD hf
  go_wp2_with fail
  refine (lFew_calls _ l w1 (SlF.fr0 hv hst.fr)).mono ?_
  rintro e w2 ⟨b, rfl, hf2⟩
  replace hst := hst.keep hf2
  clear hf2
  cases b with
  | false =>
    go_wp2_with fail
    refine (lAlive_calls _).mono ?_
    rintro e w3 ⟨rfl, hf3⟩
    go_wp2
    go_ret
    exact ⟨rfl, hst.fr.trans0 hf3⟩
  | true =>
    go_wp2_with fail
    go_loopw [7, 28] (fun _ i wr => ∃ (k : Nat) (L : List Cel), k ≤ l.length ∧ i = .int .i64 k ∧ StD w wr db mb L) (fun _ i _ => l.length - (intOf i).toNat)
    case atStart => exact ⟨0, [], Nat.zero_le _, rfl, hst⟩
    case round =>
      clear hst
      obtain ⟨k, L, hk, rfl, hst⟩ := hrel
      by_cases hlt : k < l.length
      · obtain ⟨b, off, rfl, hb, cc⟩ := SlOD.at (SlF.fr0 hv hst.fr) hlt
        have hgo := hg _ (getD_mem hlt zOD)
        generalize l.getD k zOD = o at *
        have kD := fun W h => lDoes_calls db mb L o W h hgo
        clear hgo
        obtain ⟨p, s1, t1, sec, gr, fr, lo, on⟩ := o
        have c0 := cc 0 _ rfl
        have c1 := cc 1 _ rfl
        have c2 := cc 2 _ rfl
        have c3 := cc 3 _ rfl
        have c4 := cc 4 _ rfl
        have c5 := cc 5 _ rfl
        have c6 := cc 6 _ rfl
        have c7 := cc 7 _ rfl
        clear cc
        simp only [Nat.add_zero] at c0
        unfold opdV opdC at kD
        have hst2 := hst.keep ((Fr.refl [] wr).alloc (.cells #[.int .i64 p, strL s1, strL t1, .int .i64 sec, .int .i64 gr, .int .i64 fr, .int .i64 lo, .bool on] 28))
        have B9 := (Blk.new wr [.int .i64 p, strL s1, strL t1, .int .i64 sec, .int .i64 gr, .int .i64 fr, .int .i64 lo, .bool on] 28).cell
        go_wp2_with fail
        refine (kD _ hst2.dir).mono ?_
        intro e w3 hp
        obtain ⟨L', rfl, _, hst3⟩ := hst2.does hp
        clear hp kD hst2
        go_wp2
        go_roundw
        case rel => exact ⟨k + 1, L', by omega, by go_num, hst3⟩
        case measure => simp [intOf]; omega
      · have hke : k = l.length := by omega
        subst hke
        clear hlt hlc hv hg
        have hz := hst.fr.size
        cases hc : findC L s with
        | none =>
          go_wp2_with fail
          refine (Get_none db mb L s _ hst.dir hs hc).mono ?_
          rintro e w3 ⟨rfl, hf3⟩
          unfold noEnt
          have B8 := Blk.new w3 [strL [], .bool false, .bool false, .pointer none] 36
          have hfa := (Fr.refl [] w3).alloc (.cells #[strL [], .bool false, .bool false, .pointer none] 36)
          go_wp2_with fail
          refine (lAlive_calls _).mono ?_
          rintro e w4 ⟨rfl, hf4⟩
          go_wp2
          go_ret
          exact ⟨rfl, ((hst.fr.trans0 hf3).trans0 hfa).trans0 hf4⟩
        | some c =>
          go_wp2_with fail
          refine (Get_some db mb L s c _ hst.dir hs hc).mono ?_
          rintro e w3 ⟨tb, bm, rfl, n3, n4, hB, hf3⟩
          have hlt3 : ∀ k ∈ homes db mb L, k < wr.heap.size := hst.dir.lt
          replace hst := hst.keep hf3
          unfold entV
          have B8 := Blk.new w3 [strL c.x.name, .bool c.x.on, .bool c.x.use, .pointer (some ⟨tb, 0, none⟩)] 36
          have hfa := (Fr.refl [] w3).alloc (.cells #[strL c.x.name, .bool c.x.on, .bool c.x.use, .pointer (some ⟨tb, 0, none⟩)] 36)
          replace hst := hst.keep hfa
          have hB8 := hB.fr0 hfa
          have hlB := hB.lt
          have c8 := B8.cell
          clear hfa hf3 hB
          go_wp2_with fail
          refine (Copy_calls tb bm c.x.S c.x.g c.x.l _ hB8).mono ?_
          rintro e w4 ⟨tc, mc, rfl, n5, n6, hC, hf4⟩
          replace hst := hst.keep hf4
          have hB4 := hB8.fr0 hf4
          have B4 := B8.fr0 hf4
          have c4 := B4.cell
          have hS := hB4.size
          have hz4 := hf4.size
          simp only [World.size_alloc] at n5 n6 hz4
          clear hf4 hB8 B8 c8
          have keyS := Sectors_calls tb bm c.x.S c.x.g c.x.l w4.drew (hB4.fr0 (Fr.refl [] w4).drew)
          have keyT := Set_calls tb bm c.x.S c.x.g c.x.l 0 c.x.S w4.drew (hB4.fr0 (Fr.refl [] w4).drew) (by omega)
          go_wp2_with fail
          go_region_held3 (fun W => W.cell? ⟨w3.heap.size, 3, none⟩ = some (.pointer (some ⟨tb, 0, none⟩))) (first | exact c4 3 | exact (B4.drew.fr hf (by simp; omega)).cell 3) (first | (go_at_call 16; refine keyS.mono ?_; rintro e w5 ⟨rfl, rfl⟩) | (go_at_call 25; refine keyT.mono ?_; rintro e w5 ⟨rfl, hB5, hf⟩))
          all_goals
            have B5 := B4.drew.fr hf (by simp; omega)
            have c5 := B5.cell
            have hst5 : StD w w5 db mb L := ⟨(hst.dir.fr0 (Fr.refl [] w4).drew).fr hf (fun k hk hx => by have := hlt3 k hk; have := List.mem_singleton.1 hx; omega), hst.new, (hst.fr.drew).trans hf (fun x hx hl => by have := List.mem_singleton.1 hx; omega)⟩
            have hC5 := (hC.fr0 (Fr.refl [] w4).drew).fr hf (by simp; omega) (by simp; omega)
            clear keyS keyT hf
            generalize doS c.x.g (c.x.S, c.x.l) (0, 0, c.x.S) = q at *
            go_wp2_with fail
            refine (Resize_calls tb bm _ _ _ 0 3 w5 hB5).mono ?_
            rintro e w6 ⟨rfl, hB6, hf6⟩
            have hst6 : StD w w6 db mb L := ⟨hst5.dir.fr hf6 (fun k hk hx => by have := hlt3 k hk; simp at hx; omega), hst5.new, hst5.fr.trans hf6 (fun x hx hl => by simp at hx; omega)⟩
            have hC6 := hC5.fr hf6 (by simp; omega) (by simp; omega)
            clear hst5 hC5 hB5 hf6 B5 c5 hB6
            go_wp2_with fail
            refine (Get_some db mb L s c _ hst6.dir hs hc).mono ?_
            rintro e w7 ⟨td, md, rfl, _, _, hB7, hf7⟩
            unfold entV
            have B11 := Blk.new w7 [strL c.x.name, .bool c.x.on, .bool c.x.use, .pointer (some ⟨td, 0, none⟩)] 36
            have hfa := (Fr.refl [] w7).alloc (.cells #[strL c.x.name, .bool c.x.on, .bool c.x.use, .pointer (some ⟨td, 0, none⟩)] 36)
            have hC7 := (hC6.fr0 hf7).fr0 hfa
            have hB8 := hB7.fr0 hfa
            have hF8 := (hst6.fr.trans0 hf7).trans0 hfa
            clear hfa hf7 hB7 hC6
            go_wp2_with fail
            refine (lAlive_calls _).mono ?_
            rintro e w8 ⟨rfl, hf8⟩
            have c11 := (B11.fr0 hf8).cell
            have key := Same_like tc mc c.x.S c.x.g td md c.x.l c.x.l _ (hC7.fr0 hf8) (hB8.fr0 hf8)
            rw [decide_eq_true rfl] at key
            go_wp2_with fail
            refine key.mono ?_
            rintro e w9 ⟨rfl, hf9⟩
            go_wp2
            go_ret
            exact ⟨rfl, (hF8.trans0 hf8).trans0 hf9⟩
end Go.Proofs.Ytiifmakhfpllnaa
