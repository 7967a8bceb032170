/-
  law10.BitsRows: the walk.
-/
import Derived.Test.YtfmolbgfhchdkaaBitsAllClear
import Derived.Test.YtfmolbgfhchdkaaSpanB
import Derived.Deep.RegionHeld3
namespace Go.Proofs.Ytfmolbgfhchdkaa
open Go.RowKit Go.Maps

set_option maxRecDepth 100000 in
set_option maxHeartbeats 1600000 in
theorem BitsRows_no (g : Int) (v : Value) (l : List Op3) (w : World) (hv : SlP w v l) (h : okMade 40 g l = false) : Calls Try.prog 6 #[.int .i64 g, v] w fun e w' => e = .returned (.bool true) ∧ Fr [] w w' := by
  go_enter Try.func6, Try.ntmps6
  go_wp2_with fail
  refine (made_no 40 g v l _ hv h).mono ?_
  rintro e w1 ⟨x, y, a, n, c, rfl, hf⟩
  go_wp2_with fail
  refine (alive_calls _).mono ?_
  rintro e w2 ⟨rfl, hf2⟩
  go_wp2
  go_ret
  exact ⟨rfl, (hf.alloc _).trans0 hf2⟩
set_option maxRecDepth 100000 in
set_option maxHeartbeats 1600000 in
theorem BitsRows_yes (g : Int) (v : Value) (l : List Op3) (w : World) (hv : SlP w v l) (hgood : ∀ o ∈ l, goodOp o) (h : okMade 40 g l = true) : Calls Try.prog 6 #[.int .i64 g, v] w fun e w' => e = .returned (.bool true) ∧ Fr [] w w' := by
  have h1 : okNew 40 g = true := by simp [okMade] at h; exact h.1
  have h2 : fewS 40 l = true := by simp [okMade] at h; exact h.2
  have hp : pow2 g = true := by simp [okNew] at h1; exact h1.2
  have hg := pow2_le hp
  obtain ⟨G, rfl⟩ := Int.eq_ofNat_of_zero_le (by omega : 0 ≤ g)
  have key := made_yes 40 (G : Int) v l w h1 hv h2 hgood
  unfold madePost at key
  simp only [Int.toNat_natCast] at key
  generalize (stOf 40 (G : Int) l).1 = S at *
  generalize (stOf 40 (G : Int) l).2 = L at *
  go_enter Try.func6, Try.ntmps6
  go_wp2_with fail
  refine key.mono ?_
  rintro e w1 ⟨tb, mb, rv, rfl, hW, hR, ht, hm, hf⟩
  obtain ⟨x, y, a, n, c, rfl⟩ := hR.some
  have hS := hW.size
  have hfa := (Fr.refl [] w1).alloc (.cells #[.int .i64 x, .int .i64 y, .slice a n c] 28)
  replace hW := hW.fr0 hfa
  replace hf := hf.trans0 hfa
  clear hfa hR key
  go_wp2_with fail
  refine (Row_calls tb mb S G L _ hW).mono ?_
  rintro e w2 ⟨v2, rfl, hs2, hf2⟩
  replace hW := hW.fr0 hf2
  replace hf := hf.trans0 hf2
  have hRE := RightE.of (kindsB S G L S)
  have hkl := kindsB_len S G L S
  have hK : ∀ s : Nat, s < S → Hid ((kindsB S G L S).getD s 0 = if isB S G L s = true then 1 else 0) := fun s hs => hidIt (kindsB_getD S G L hs)
  generalize kindsB S G L S = D at *
  generalize ofE D = E at *
  obtain ⟨ae, ce, rfl, hec, hecm, _⟩ := hs2.open
  unfold maxLen at hecm
  have hEl := hRE.len
  clear hf2
  go_wp2_with fail
  go_loopw [8, 10, 11, 25] (fun aq _ _ i wr => ∃ k : Nat, k ≤ E.length ∧ i = .int .i64 k ∧ aq = .int .i64 ((flatE (E.take k)).length : Int) ∧ BitW wr tb mb S G L ∧ SlP wr (.slice ae E.length ce) E ∧ Fr [] w wr) (fun _ _ _ i _ => E.length - (intOf i).toNat)
  case atStart => exact ⟨0, Nat.zero_le _, rfl, rfl, hW, hs2, hf⟩
  case round =>
    clear hW hs2 hf
    obtain ⟨k, hk, rfl, rfl, hW, hs, hF⟩ := hrel
    by_cases hlt : k < E.length
    · obtain ⟨b, off, rfl, hb, c0, c1, c2⟩ := SlP.at hs hlt
      have hx := hRE.2 k hlt
      have hkind := fun j hj => hidIt (hRE.kind (j := j) hlt hj)
      have hstep := hidIt (flat_step hlt)
      have hle := flat_take_le E (k + 1)
      rw [hstep.out, List.length_append, List.length_replicate, hRE.1, hkl] at hle
      generalize E.getD k z3 = xx at *
      obtain ⟨p, q, r⟩ := xx
      simp only at c0 c1 c2 hx hkind hle hstep
      generalize hat : (flatE (E.take k)).length = T at *
      obtain ⟨hx1, hx2⟩ := hx
      subst hx1
      obtain ⟨Q, rfl⟩ := Int.eq_ofNat_of_zero_le (by omega : 0 ≤ q)
      have hQ1 : ¬ (Q : Int) < 1 := by omega
      have B10 := Blk.new wr [.int .i64 T, .int .i64 Q, .int .i64 r] 45
      have hfa := (Fr.refl [] wr).alloc (.cells #[.int .i64 T, .int .i64 Q, .int .i64 r] 45)
      have hWa := hW.fr0 hfa
      have hsa := SlF.fr0 hs hfa
      have hFa := hF.trans0 hfa
      have Hen : Hid ((flatE (E.take (k + 1))).length = T + Q) := hidIt (by rw [hstep.out, List.length_append, hat]; simp)
      rw [Int.toNat_natCast] at hle
      clear hW hs hF hfa hstep
      generalize wr = wo at *
      go_wp2_with fail
      go_loopw [11] (fun s wr => ∃ j : Nat, j ≤ Q ∧ s = .int .i64 ((T + j : Nat) : Int) ∧ BitW wr tb mb S G L ∧ SlP wr (.slice (some ⟨b, off, none⟩) E.length ce) E ∧ Blk wr wo.heap.size [.int .i64 T, .int .i64 Q, .int .i64 r] 45 ∧ Fr [] w wr) (fun s _ => T + Q - (intOf s).toNat)
      case atStart => exact ⟨0, Nat.zero_le _, rfl, hWa, hsa, B10, hFa⟩
      case round =>
        clear hWa hsa B10 hFa
        obtain ⟨j, hj, rfl, hW, hs, B10, hF⟩ := hrel
        have b10 := B10.cell
        by_cases hjq : j < Q
        · have hlt1 : ((T + j : Nat) : Int) < (T : Int) + (Q : Int) := by omega
          have hki := hkind j (by omega)
          have hkk := hK (T + j) (by omega)
          have Heq : Hid (isB S G L ((T + j : Nat) : Int) = (r == 1)) := hidIt (by
            rw [hkk.out] at hki
            have := hki.out
            rw [← this]
            cases isB S G L ((T + j : Nat) : Int) <;> rfl)
          clear hki hkk hkind hK hRE
          generalize hsj : T + j = s at *
          have hWd : BitW wr.drew tb mb S G L := hW.fr0 (Fr.refl _ _).drew
          have B10d := B10.drew
          go_wp2_with fail
          go_region_held3 (fun W => W.cell? ⟨wo.heap.size, 2, none⟩ = some (.int .i64 r)) (first | exact b10 2 | (exact hcell)) (first | (go_at_call 13; refine (Is_calls tb mb S G L s _ hWd).mono ?_; rintro e w4 ⟨rfl, hf4⟩; have hcell := (B10d.fr0 hf4).cell 2))
          all_goals rw [Heq.out]
          all_goals have hfd := (((Fr.refl [] wr).drew).trans0 hf4)
          all_goals clear Heq hcell b10
          all_goals generalize (r == 1) = z at *
          all_goals cases z
          all_goals go_wp2
          all_goals go_roundw
          all_goals first
            | exact ⟨j + 1, by omega, by rw [← Nat.add_assoc, hsj]; go_num, hW.fr0 hfd, SlF.fr0 hs hfd, B10.fr0 hfd, hF.trans0 hfd⟩
            | (simp [intOf]; omega)
        · have hjQ : j = Q := by omega
          subst hjQ
          have hnlt : ¬ ((T + j : Nat) : Int) < (T : Int) + (j : Int) := by omega
          clear hkind hK hRE
          go_wp2
          go_roundw
          case rel => exact ⟨k + 1, by omega, by go_num, by rw [Hen.out]; go_num, hW, hs, hF⟩
          case measure => simp [intOf]; omega
    · have hke : k = E.length := by omega
      have HT : Hid ((flatE (E.take k)).length = S) := hidIt (by rw [hke, List.take_length, hRE.1, hkl])
      clear hke hK hRE
      generalize (flatE (E.take k)).length = T at *
      rw [HT.out]
      go_wp2_with fail
      refine (alive_calls _).mono ?_
      rintro e w3 ⟨rfl, hf3⟩
      replace hW := hW.fr0 hf3
      replace hF := hF.trans0 hf3
      go_wp2_with fail
      refine (Sectors_calls tb mb S G L _ hW).mono ?_
      rintro e w4 ⟨rfl, rfl⟩
      go_wp2
      go_ret
      exact ⟨rfl, hF⟩
theorem BitsRows_any (w : World) (g : Int) (_ : -9223372036854775808 ≤ g ∧ g ≤ 9223372036854775807) (v : Value) (l : List Op3) (hv : SlP w v l) (hw : ∀ o ∈ l, wf3 o) :
    Calls Try.prog 6 #[.int .i64 g, v] w fun e w' => e = .returned (.bool true) ∧ Fr [] w w' := by
  by_cases h : okMade 40 g l = true
  · exact BitsRows_yes g v l w hv (good_of hw) h
  · exact BitsRows_no g v l w hv (by simpa using h)
end Go.Proofs.Ytfmolbgfhchdkaa
