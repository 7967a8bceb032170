/-
  CheckEnds, of rows of any number.
-/
import Derived.Test.YtmbbmombhkaeoaaWkE
namespace Go.Proofs.Ytmbbmombhkaeoaa
open Go.RowKit Go.Maps
attribute [local go_sem] Oper.semAt_some

set_option maxRecDepth 100000 in
set_option maxHeartbeats 1600000 in
theorem CheckEnds_anyW (w : World) (v : Value) (n : List Int) (hv : SlI w v n) (u : Value) (ls : List (List Slt)) (hu : SlR w u ls) (ht : Bnd ls) :
    Calls Try.prog 5 #[v, u] w fun e w' => e = .returned (.bool true) ∧ Fr [] w w' := by
  have kF := few_callsW v u n ls w hv hu ht
  cases hfb : fewW n ls with
  | false =>
    rw [hfb] at kF
    go_enter Try.func5, Try.ntmps5
    go_wp2_with fail
    refine kF.mono ?_
    rintro e w1 ⟨rfl, hf1⟩
    go_wp2_with fail
    refine (alive_calls _).mono ?_
    rintro e w2 ⟨rfl, hf2⟩
    go_wp2
    go_ret
    exact ⟨rfl, hf1.trans0 hf2⟩
  | true =>
    have hn : n.length ≤ 1048576 := by unfold fewW at hfb; simp only [Bool.and_eq_true, decide_eq_true_eq] at hfb; omega
    rw [hfb] at kF
    obtain ⟨au, cu, rfl, hlcu, hcmu⟩ := hu.open
    obtain ⟨av, cv, rfl, _, _, _⟩ := hv.open
    unfold maxLen at hcmu
    go_enter Try.func5, Try.ntmps5
    go_wp2_with fail
    refine kF.mono ?_
    rintro e w1 ⟨rfl, hf1⟩
    go_wp2_with fail
    refine (own_callsW _ ls _ (hu.fr0 hf1) ht).mono ?_
    rintro e w2 ⟨x, rfl, hx, hf2⟩
    have hF2 := hf1.trans0 hf2
    go_wp2_with fail
    refine (Repair_callsW _ x n ls _ (SlF.fr0 hv hF2) hx ht hn).mono ?_
    rintro e w3 ⟨vn, vo, vs, ls2, rfl, ho, hO, hlens, hflat, hf3⟩
    replace hF2 := hF2.trans0 hf3
    clear kF hv hx hf1 hf2
    replace ho : w3.ownsRow w2.heap.size 3 1 vn n.length ((rcW n.length (gsOf n.length ls.flatten)).flatMap intC) := ho
    replace hflat : ls2.flatten = hsW n.length (len0 ls) ls.flatten := hflat
    have hll : ls2.length = ls.length := by have := congrArg List.length hlens; simpa using this
    have hcl : (rcW n.length (gsOf n.length ls.flatten)).length = n.length := rcW_length _ _
    generalize wz (cntTo (badAt n.length ls.flatten) ls.flatten.length + cntTo (turn2 n.length (len0 ls) (rcW n.length (ls.flatten.mapIdx fun _ => fix1 n.length)) (ls.flatten.mapIdx fun _ => fix1 n.length)) ls.flatten.length + cntTo (diffAt n (rcW n.length (ls.flatten.mapIdx fun _ => fix1 n.length))) n.length) = ch
    have hsn : SlI w3 vn (rcW n.length (gsOf n.length ls.flatten)) := SlF.of_owns (by rw [hcl]; exact ho)
    have kR := Repair_repW vn vo vs ls ls2 _ w3 n.length hsn hO hlens hflat ht hn
    have kL := fun (w' : World) (s : SlI w' vn (rcW n.length (gsOf n.length ls.flatten))) (O : OutV w' w2.heap.size vo vs ls2) => Look_repW vn vo vs _ ls ls2 _ w' s O hlens n.length hcl hflat ht hn
    rw [more_self, less_self] at kL
    have hst : ∀ i k, i < ls.length → k < (ls.getD i []).length → (hasS ((ls.getD i []).getD k zS) (n.length : Int) = true → ((ls2.getD i []).getD k zS).1 = ((ls.getD i []).getD k zS).1 ∧ ((ls2.getD i []).getD k zS).2.1 = ((ls.getD i []).getD k zS).2.1) ∧
        (hasS ((ls.getD i []).getD k zS) (n.length : Int) = false → ((ls2.getD i []).getD k zS).1 ≠ 1) := fun i k hi hk => by
      have e1 := flat_get ls i k hi hk
      have e2 := flat_get ls2 i k (by rw [hll]; exact hi) (by rw [lens_at hlens]; exact hk)
      have hlt := flat_lt ls i k hi hk
      rw [lens_take hlens, hflat] at e2
      rw [← e1, ← e2]
      exact ⟨hsW_has n.length (len0 ls) ls.flatten hlt, hsW_hasnt n.length (len0 ls) ls.flatten hlt⟩
    have hli := lens_at hlens
    obtain ⟨ao, co, rfl, _⟩ := Sl.of_owns hO.row
    obtain ⟨an, cn, rfl, _⟩ := Sl.of_owns ho
    generalize rcW n.length (gsOf n.length ls.flatten) = c at *
    clear ho hcl hflat
    rw [hll] at kR hO ⊢
    simp only [hll] at kL
    have Hll := hidIt hll
    have Hli := hidIt hli
    clear hll hli
    go_wp2_with fail
    refine kR.mono ?_
    rintro e w4 ⟨vm, vp, rfl, sm, sp, hf4⟩
    clear kR
    obtain ⟨am, cm, rfl, _⟩ := sm.open
    obtain ⟨ap, cp, hvp, _, _⟩ := sp.open
    rw [Hll.out] at hvp
    subst hvp
    have hn4 := SlF.fr0 hsn hf4
    have hO4 := hO.fr0 hf4
    have hsz := hF2.size
    go_wp2_with fail
    refine (SameI_calls _ _ c _ hn4 sm).mono ?_
    rintro e w5 ⟨rfl, hf5⟩
    go_wp2_with fail
    refine (plain_callsW _ ls2 _ (hO4.slr.fr0 hf5) (bnd_lens hlens ht)).mono ?_
    rintro e w6 ⟨y1, rfl, sy1, hf6⟩
    have hf56 := hf5.trans0 hf6
    go_wp2_with fail
    refine (plain_callsW _ ls2 _ (sp.fr0 hf56) (bnd_lens hlens ht)).mono ?_
    rintro e w7 ⟨y2, rfl, sy2, hf7⟩
    go_wp2_with fail
    refine (same_calls _ _ ls2 _ (sy1.fr0 hf7) sy2).mono ?_
    rintro e w8 ⟨rfl, hf8⟩
    have hf38 := ((hf4.trans0 hf56).trans0 hf7).trans0 hf8
    have hw8 := hF2.trans0 hf38
    have hO8 := hO.fr0 hf38
    have hn8 := SlF.fr0 hsn hf38
    clear sy1 sy2 sm sp hf5 hf6 hf7 hf8 hf56 hf4 hO4 hn4 hO hsn hf38 hF2
    go_wp2_with fail
    go_loopw [67] (fun x wr => ∃ i : Nat, i ≤ ls.length ∧ x = .int .i64 i ∧ Fr [] w8 wr) (fun x _ => ls.length - (intOf x).toNat)
    case atStart => exact ⟨0, Nat.zero_le _, rfl, Fr.refl _ _⟩
    case round =>
      obtain ⟨i, hi, rfl, hF⟩ := hrel
      by_cases hlt : i < ls.length
      · obtain ⟨b, off, a2, cap2, rfl, hb, c0, hs, hm2⟩ := SlR.at (hu.fr0 (hw8.trans0 hF)) hlt
        obtain ⟨b', off', a3, cap3, rfl, hb', c0', hs', hm3⟩ := SlR.at (hO8.fr0 hF).slr (i := i) (by rw [Hll.out]; exact hlt)
        rw [Hli.out] at c0' hs'
        have hst1 := fun k => hst i k hlt
        have hl2 : (ls2.getD i []).length = (ls.getD i []).length := Hli.out i
        have Hl2 := hidIt hl2
        clear hst hm3 hl2
        generalize ls.getD i [] = l at *
        generalize ls2.getD i [] = l2 at *
        generalize wr = wo at *
        have hi' : (i : Int) < ls.length := by omega
        have hi0 : (0 : Int) ≤ i := by omega
        go_wp2_with fail
        go_quiet (fail)
        go_wp2_with fail
        go_loopw [86] (fun x wr => ∃ k : Nat, k ≤ l.length ∧ x = .int .i64 k ∧ Fr [] wo wr) (fun x _ => l.length - (intOf x).toNat)
        case atStart => exact ⟨0, Nat.zero_le _, rfl, by repeat (first | exact Fr.refl _ _ | apply Fr.drew | apply Fr.drewN)⟩
        case round =>
          obtain ⟨k, hk, rfl, hF2⟩ := hrel
          by_cases hkl : k < l.length
          · obtain ⟨b3, off3, rfl, hb3, d0, d1, d2⟩ := SlS.at (SlF.fr0 hs hF2 : SlS _ _ _) hkl
            obtain ⟨b4, off4, rfl, hb4, f0, f1, f2⟩ := SlS.at (SlF.fr0 hs' hF2 : SlS _ _ _) (i := k) (by rw [Hl2.out]; exact hkl)
            have hst2 := hst1 k hkl
            clear hst1
            have c0w := (World.cell?_of_block (hF2.block b hb (by simp))).trans c0
            have c0w' := (World.cell?_of_block (hF2.block b' hb' (by simp))).trans c0'
            have hbw : b < wr.heap.size := Nat.lt_of_lt_of_le hb hF2.size
            have hbw' : b' < wr.heap.size := Nat.lt_of_lt_of_le hb' hF2.size
            generalize l.getD k zS = s at *
            generalize l2.getD k zS = t at *
            obtain ⟨p, q, r⟩ := s
            obtain ⟨p2, q2, r2⟩ := t
            simp only at d0 d1 d2 f0 f1 f2 hst2
            have hk' : (k : Int) < l.length := by omega
            have hk0 : (0 : Int) ≤ k := by omega
            have kH := fun w' => rHas_calls p q r (n.length : Int) w'
            have Bs : Blk ((wr.alloc (.cells #[.int .i64 p, .int .i64 q, .bool r] 44)).alloc (.cells #[.int .i64 p2, .int .i64 q2, .bool r2] 45)) wr.heap.size [.int .i64 p, .int .i64 q, .bool r] 44 := (Blk.new wr [_, _, _] _).alloc _
            have Bt : Blk ((wr.alloc (.cells #[.int .i64 p, .int .i64 q, .bool r] 44)).alloc (.cells #[.int .i64 p2, .int .i64 q2, .bool r2] 45)) (wr.heap.size + 1) [.int .i64 p2, .int .i64 q2, .bool r2] 45 := Blk.new' (by simp) [_, _, _] _
            have hfa := ((Fr.refl [] wr).alloc (.cells #[.int .i64 p, .int .i64 q, .bool r] 44)).alloc (.cells #[.int .i64 p2, .int .i64 q2, .bool r2] 45)
            go_wp2_with fail
            refine (kH _).mono ?_
            rintro e w9 ⟨rfl, hf9⟩
            replace Bs := Bs.fr0 hf9
            replace Bt := Bt.fr0 hf9
            have cs := Bs.cell
            have ct := Bt.cell
            have hf29 := (hF2.trans0 hfa).trans0 hf9
            clear hfa hf9 d0 d1 d2 f0 f1 f2 c0w c0w'
            cases hh : hasS (p, q, r) (n.length : Int) with
            | true =>
              obtain ⟨e1, e2⟩ := hst2.1 hh
              subst e1
              subst e2
              rw [hh] at kH
              clear hst2
              go_wp2_with fail
              refine (kH _).mono ?_
              rintro e w10 ⟨rfl, hf10⟩
              go_wp2
              go_roundw
              case rel => exact ⟨k + 1, by omega, by go_num, hf29.trans0 hf10⟩
              case measure => simp [intOf]; omega
            | false =>
              have e1 : (p2 == 1) = false := by have := hst2.2 hh; simp; exact this
              rw [hh] at kH
              clear hst2
              go_wp2_with fail
              refine (kH _).mono ?_
              rintro e w10 ⟨rfl, hf10⟩
              have ct2 := (Bt.fr0 hf10).cell
              clear ct
              go_wp2
              go_roundw
              case rel => exact ⟨k + 1, by omega, by go_num, hf29.trans0 hf10⟩
              case measure => simp [intOf]; omega
          · go_wp2
            go_roundw
            case rel => exact ⟨i + 1, by omega, by go_num, hF.trans0 hF2⟩
            case measure => simp [intOf]; omega
      · have hFw := hw8.trans0 hF
        have kL1 := kL wr (SlF.fr0 hn8 hF) (hO8.fr0 hF)
        go_wp2_with fail
        refine (alive_calls _).mono ?_
        rintro e w9 ⟨rfl, hf9⟩
        have kL2 := kL w9 (SlF.fr0 (SlF.fr0 hn8 hF) hf9) ((hO8.fr0 hF).fr0 hf9)
        clear kL kL1
        go_wp2_with fail
        refine kL2.mono ?_
        rintro e w10 ⟨v0, v1, v2, v3, rfl, s0, s1, s2, s3, hf10, _⟩
        go_wp2_with fail
        refine (Clean_calls _ _ _ _ [] [] [] [] _ s0 s1 s2 s3 (by decide) (by decide) (by decide) (by decide)).mono ?_
        rintro e w11 ⟨rfl, hf11⟩
        go_wp2
        go_ret
        exact ⟨rfl, ((hFw.trans0 hf9).trans0 hf10).trans0 hf11⟩
end Go.Proofs.Ytmbbmombhkaeoaa
