/-
  CheckFine.
-/
import Derived.Test.YtmbbmombhkaeoaaChkQ
namespace Go.Proofs.Ytmbbmombhkaeoaa
open Go.RowKit Go.Maps
attribute [local go_sem] Oper.semAt_some

theorem own_not_own {w : World} {b1 b2 z1 z2 n1 n2 g : Nat} {e1 e2 : TypeId} {v1 v2 : Value} {x1 x2 : List Value} (h1 : w.ownsRow b1 e1 z1 v1 n1 x1) (h2 : w.ownsRow b2 e2 z2 v2 n2 x2) (he : e1 ≠ e2) (g1 : v1.ownBlock = some g) (g2 : v2.ownBlock = some g) : False := by
  rcases h1.2 with ⟨rfl, _⟩ | ⟨ga, ca, cu, rfl, _, hga, _⟩
  · cases g1
  · rcases h2.2 with ⟨rfl, _⟩ | ⟨gb, cb, cv, rfl, _, hgb, _⟩
    · cases g2
    · cases g1
      cases g2
      rw [hga] at hgb
      cases hgb
      exact he rfl
/-- the rows stand while the counts are turned -/
theorem OutV.apart {w : World} {base : Nat} {v u : Value} {vs : List Value} {ls : List (List Slt)} {b z n : Nat} {xs : List Value} (h : OutV w base v vs ls) (ho : w.ownsRow b 3 z u n xs) : ∀ x ∈ u.ownBlock.toList, x ∉ outB vs ∧ v.ownBlock ≠ some x := by
  intro x hx
  have hx' : u.ownBlock = some x := by simpa using hx
  refine ⟨fun hm => ?_, fun hv => own_not_own ho h.row (by decide) hx' hv⟩
  obtain ⟨y, hy, hb⟩ := List.mem_filterMap.1 hm
  obtain ⟨i, hi, rfl⟩ := List.getElem_of_mem hy
  exact own_not_own ho (h.own i _ (List.getElem?_eq_getElem hi)) (by decide) hx' hb
/-- Look at what was repaired -/
theorem Look_rep (vn vo : Value) (vs : List Value) (n : List Int) (ls ls2 : List (List Slt)) (base : Nat) (w : World) (hn : SlI w vn n) (hO : OutV w base vo vs ls2) (hl : ls2.map List.length = ls.map List.length) (N : Nat) (hN : n.length = N)
    (hf : ls2.flatten = hsOf N (len0 ls) ls.flatten) (ht : tot ls ≤ 1048576) (hm : N ≤ 1048576) :
    Calls Try.prog 10 #[vn, vo] w fun e w' => ∃ v0 v1 v2 v3, e = .returned (.agg #[v0, v1, v2, v3]) ∧ SlI w' v0 (pickTo (moreB n (rcL N (gsOf N ls.flatten))) N) ∧ SlI w' v1 (pickTo (lessB n (rcL N (gsOf N ls.flatten))) N) ∧ SlI w' v2 [] ∧ SlI w' v3 [] ∧ Fr [] w w' ∧
      ∀ b, v0.ownBlock = some b ∨ v1.ownBlock = some b ∨ v2.ownBlock = some b ∨ v3.ownBlock = some b → w.heap.size ≤ b := by
  subst hN
  refine (Look_calls vn vo n ls2 w hn hO.slr (by rw [tot_lens hl]; exact ht) hm).mono ?_
  rintro e w' ⟨v0, v1, v2, v3, he, s0, s1, s2, s3, hF, hb⟩
  rw [hf, hs_rc] at s0 s1
  rw [hf, hs_bad] at s2
  rw [hf, len0_lens hl, hs_wrong] at s3
  exact ⟨v0, v1, v2, v3, he, s0, s1, s2, s3, hF, hb⟩
set_option maxRecDepth 100000 in
set_option maxHeartbeats 3200000 in
theorem CheckFine_any (w : World) (v : Value) (n : List Int) (hv : SlI w v n) (hn : n.length ≤ 1048576) (u : Value) (ls : List (List Slt)) (hu : SlR w u ls) (ht : tot ls ≤ 1048576) (A : Int) (_ : -9223372036854775808 ≤ A ∧ A ≤ 9223372036854775807) :
    Calls Try.prog 6 #[v, u, .int .i64 A] w fun e w' => e = .returned (.bool true) ∧ Fr [] w w' := by
  have kF := few_calls v u n ls w hv hu ht
  cases hfb : fewB n ls with
  | false =>
    rw [hfb] at kF
    go_enter Try.func6, Try.ntmps6
    go_wp2_with fail
    refine kF.mono ?_
    rintro e w1 ⟨rfl, hf1⟩
    go_wp2_with fail
    refine (alive_calls _).mono ?_
    rintro e w2 ⟨rfl, hf2⟩
    go_wp2
    go_ret
    exact ⟨rfl, hf1.trans0 hf2⟩
  | true =>
    rw [hfb] at kF
    obtain ⟨au, cu, rfl, _, _⟩ := hu.open
    go_enter Try.func6, Try.ntmps6
    go_wp2_with fail
    refine kF.mono ?_
    rintro e w1 ⟨rfl, hf1⟩
    go_wp2_with fail
    refine (own_calls _ ls _ (hu.fr0 hf1) ht).mono ?_
    rintro e w2 ⟨x, rfl, hx, hf2⟩
    have hF2 := hf1.trans0 hf2
    go_wp2_with fail
    refine (Repair_calls v x n ls _ (SlF.fr0 hv hF2) hx ht hn).mono ?_
    rintro e w3 ⟨vn, vo, vs, ls2, rfl, ho, hO, hlens, hflat, hf3⟩
    have hz12 := hF2.size
    replace hF2 := hF2.trans0 hf3
    clear kF hu hv hx hf1 hf2
    replace ho : w3.ownsRow w2.heap.size 3 1 vn n.length ((rcL n.length (gsOf n.length ls.flatten)).flatMap intC) := ho
    replace hflat : ls2.flatten = hsOf n.length (len0 ls) ls.flatten := hflat
    have hll : ls2.length = ls.length := by have := congrArg List.length hlens; simpa using this
    have hcl : (rcL n.length (gsOf n.length ls.flatten)).length = n.length := rcL_length _ _
    generalize ((cntTo (badAt n.length ls.flatten) ls.flatten.length + cntTo (turn2 n.length (len0 ls) (rcL n.length (ls.flatten.mapIdx fun _ => fix1 n.length)) (ls.flatten.mapIdx fun _ => fix1 n.length)) ls.flatten.length + cntTo (diffAt n (rcL n.length (ls.flatten.mapIdx fun _ => fix1 n.length))) n.length : Nat) : Int) = ch
    obtain ⟨ao, co, rfl, _⟩ := Sl.of_owns hO.row
    rw [hll] at hO
    have kL := fun (n' : List Int) (w' : World) (s : SlI w' vn n') (O : OutV w' w2.heap.size (.slice ao ls.length co) vs ls2) (hN : n'.length = n.length) => Look_rep vn _ vs n' ls ls2 _ w' s O hlens n.length hN hflat ht hn
    generalize hc : rcL n.length (gsOf n.length ls.flatten) = c at *
    have hcb : ∀ i, i < n.length → 0 ≤ c.getD i 0 ∧ c.getD i 0 ≤ 1048576 := fun i hi => by
      rw [← hc, rcL_getD _ hi]
      have := rc1_le (n.length : Int) (i : Int) (gsOf n.length ls.flatten)
      rw [gs_length] at this
      have := flatten_len ls
      omega
    have hsn : SlI w3 vn c := SlF.of_owns (by rw [hcl]; exact ho)
    obtain ⟨an, cn, rfl, _⟩ := Sl.of_owns ho
    rw [hll]
    clear hll
    have kL1 := fun w' (s : SlI w' _ c) O => kL c w' s O hcl
    rw [more_self, less_self] at kL1
    have fin : ∀ w', Fr [] w3 w' → Calls Try.prog 10 #[.slice an n.length cn, .slice ao ls.length co] w' fun e w'' => ∃ v0 v1 v2 v3, e = .returned (.agg #[v0, v1, v2, v3]) ∧ SlI w'' v0 [] ∧ SlI w'' v1 [] ∧ SlI w'' v2 [] ∧ SlI w'' v3 [] ∧ Fr [] w' w'' := fun w' hf => by
      refine (kL1 w' (SlF.fr0 hsn hf) (hO.fr0 hf)).mono ?_
      rintro e w'' ⟨v0, v1, v2, v3, he, s0, s1, s2, s3, hF, _⟩
      exact ⟨v0, v1, v2, v3, he, s0, s1, s2, s3, hF⟩
    rcases Int.lt_or_le A 0 with hA | hA
    · clear kL kL1 hsn hO ho hcb
      go_wp2_with fail
      refine (alive_calls _).mono ?_
      rintro e w4 ⟨rfl, hf4⟩
      have k4 := fin w4 hf4
      clear fin
      go_wp2_with fail
      refine k4.mono ?_
      rintro e w5 ⟨v0, v1, v2, v3, rfl, s0, s1, s2, s3, hf5⟩
      clear k4
      go_wp2_with fail
      refine (Clean_calls _ _ _ _ [] [] [] [] _ s0 s1 s2 s3 (by decide) (by decide) (by decide) (by decide)).mono ?_
      rintro e w6 ⟨rfl, hf6⟩
      go_wp2
      go_ret
      exact ⟨rfl, (((hF2.trans0 hf4).trans0 hf5)).trans0 hf6⟩
    · obtain ⟨k, rfl⟩ : ∃ k : Nat, A = (k : Int) := ⟨A.toNat, by omega⟩
      by_cases hk : k < n.length
      · obtain ⟨g, cap, he, hgb, _⟩ := owns_succ ho (by omega)
        cases he
        have hap := hO.apart ho
        have hgl := (ho.lt g rfl).2
        have hcv := hcb k hk
        have hm1 := one_more c (i := k) (by rw [hcl]; exact hk)
        have hl1 := one_less c (i := k) (by rw [hcl]; exact hk)
        rw [hcl] at hm1 hl1
        have hxs : ((c.flatMap intC))[k]? = some (.int .i64 (c.getD k 0)) := by
          rw [flatI_at, getD_some 0 (by rw [hcl]; exact hk)]; rfl
        have hput1 := owns_put ho k (.int .i64 (c.getD k 0 + 1))
        rw [← flatI_set] at hput1
        have hfr1 : Fr [g] w3 (w3.setCell ⟨g, k, none⟩ (.int .i64 (c.getD k 0 + 1))) := (Fr.refl _ _).setCell (.inl (by simp)) _
        have hO1 := hO.fr hfr1 (by simpa [Value.ownBlock] using hap)
        have hset : ∀ y, (c.set k y).length = n.length := fun y => by rw [List.length_set]; exact hcl
        have kA := kL (c.set k (c.getD k 0 + 1)) _ (SlF.of_owns (by rw [hset]; exact hput1)) hO1 (hset _)
        rw [hm1.1, hm1.2] at kA
        obtain ⟨q1, q2⟩ := owns_at ho hxs
        have hkN : (k : Int) < n.length := by omega
        have hk0 : (0 : Int) ≤ k := by omega
        have hset2 : ((c.set k (c.getD k 0 + 1)).set k (c.getD k 0 - 1)) = c.set k (c.getD k 0 - 1) := by simp
        have hxs2 : (((c.set k (c.getD k 0 + 1)).flatMap intC))[k]? = some (.int .i64 (c.getD k 0 + 1)) := by
          rw [flatI_at, List.getElem?_set_self (by rw [hcl]; exact hk)]; rfl
        have kB : ∀ w', w'.ownsRow w2.heap.size 3 1 (.slice (some ⟨g, 0, none⟩) n.length cn) n.length ((c.set k (c.getD k 0 - 1)).flatMap intC) → OutV w' w2.heap.size (.slice ao ls.length co) vs ls2 → _ := fun w' h1 h2 => kL (c.set k (c.getD k 0 - 1)) w' (SlF.of_owns (by rw [hset]; exact h1)) h2 (hset _)
        rw [hl1.1, hl1.2] at kB
        generalize c.getD k 0 = x at *
        have hw3 : w2.heap.size ≤ w3.heap.size := hf3.size
        clear kL fin kL1 hcb hm1 hl1 hxs hsn ho hO hap
        go_wp2_with fail
        refine kA.mono ?_
        rintro e w4 ⟨v0, v1, v2, v3, rfl, s0, s1, s2, s3, hf4, hlow⟩
        obtain ⟨a0, p0, rfl, _⟩ := s0.open
        obtain ⟨a1, p1, rfl, _⟩ := s1.open
        obtain ⟨a2, p2, rfl, _⟩ := s2.open
        obtain ⟨a3, p3, rfl, _⟩ := s3.open
        simp only [List.length_cons, List.length_nil, Nat.zero_add] at s0 s1 s2 s3 hlow ⊢
        have hz4 := hf4.size
        simp only [World.size_setCell] at hz4 hlow
        have hw4 := (hF2.trans hfr1 (fun x hx hl => by have := List.mem_singleton.1 hx; subst this; exact absurd hl (by omega))).trans0 hf4
        replace hput1 := owns_fr hput1 hf4 (by simp)
        replace hO1 := hO1.fr0 hf4
        have hfa := (Fr.refl [] w4).alloc (.cells #[.slice a0 1 p0, .slice a1 0 p1, .slice a2 0 p2, .slice a3 0 p3] 27)
        have Br := Blk.new w4 [.slice a0 1 p0, .slice a1 0 p1, .slice a2 0 p2, .slice a3 0 p3] 27
        replace hput1 := owns_fr hput1 hfa (by simp)
        replace hO1 := hO1.fr0 hfa
        obtain ⟨q3, q4⟩ := owns_at hput1 hxs2
        go_wp2_with fail
        rw [show x + 1 - 2 = x - 1 by omega]
        have hput2 := owns_put hput1 k (.int .i64 (x - 1))
        rw [← flatI_set, hset2] at hput2
        have hfr2 : Fr [g] (w4.alloc (.cells #[.slice a0 1 p0, .slice a1 0 p1, .slice a2 0 p2, .slice a3 0 p3] 27)) ((w4.alloc (.cells #[.slice a0 1 p0, .slice a1 0 p1, .slice a2 0 p2, .slice a3 0 p3] 27)).setCell ⟨g, k, none⟩ (.int .i64 (x - 1))) := (Fr.refl _ _).setCell (.inl (by simp)) _
        have hO2 := hO1.fr hfr2 (by simpa [Value.ownBlock] using hO1.apart hput1)
        have hfa2 := (hfa.weak).trans' hfr2
        have hnn : ∀ b, b ∈ [g] → ¬ w3.heap.size ≤ b := fun b hb h => by have := List.mem_singleton.1 hb; omega
        replace s0 := SlF.fr s0 hfa2 (fun b hb h => hnn b h (hlow b (.inl hb)))
        replace s1 := SlF.fr s1 hfa2 (fun b hb h => hnn b h (hlow b (.inr (.inl hb))))
        replace s2 := SlF.fr s2 hfa2 (fun b hb h => hnn b h (hlow b (.inr (.inr (.inl hb)))))
        replace s3 := SlF.fr s3 hfa2 (fun b hb h => hnn b h (hlow b (.inr (.inr (.inr hb)))))
        replace Br := Br.fr hfr2 (by simp; omega)
        have hw5 := hw4.trans hfa2 (fun y hy hl => by have := List.mem_singleton.1 hy; subst this; exact absurd hl (by omega))
        clear hfa hfa2 hO1 hput1 q3 q4 q1 q2
        generalize ((w4.alloc (.cells #[.slice a0 1 p0, .slice a1 0 p1, .slice a2 0 p2, .slice a3 0 p3] 27)).setCell ⟨g, k, none⟩ (.int .i64 (x - 1))) = w5 at *
        refine (kB w5 hput2 hO2).mono ?_
        rintro e w6 ⟨y0, y1, y2, y3, rfl, t0, t1, t2, t3, hf6, _⟩
        obtain ⟨b0, r0, rfl, _⟩ := t0.open
        obtain ⟨b1, r1, rfl, _⟩ := t1.open
        obtain ⟨b2, r2, rfl, _⟩ := t2.open
        obtain ⟨b3, r3, rfl, _⟩ := t3.open
        simp only [List.length_cons, List.length_nil, Nat.zero_add] at t0 t1 t2 t3 ⊢
        have hfb := (Fr.refl [] w6).alloc (.cells #[.slice b0 0 r0, .slice b1 1 r1, .slice b2 0 r2, .slice b3 0 r3] 27)
        have Bs := Blk.new w6 [.slice b0 0 r0, .slice b1 1 r1, .slice b2 0 r2, .slice b3 0 r3] 27
        have hf7 := hf6.trans0 hfb
        replace Br := Br.fr0 hf7
        replace s0 := SlF.fr0 s0 hf7
        replace t1 := SlF.fr0 t1 hfb
        have hw7 := hw5.trans0 hf7
        clear kB hO2 hput2 hf6 hf7 s1 s2 s3 t0 t2 t3 hfb
        generalize hw7' : w6.alloc (.cells #[.slice b0 0 r0, .slice b1 1 r1, .slice b2 0 r2, .slice b3 0 r3] 27) = w7 at *
        go_wp2_with fail
        try rw [hw7']
        clear hw7'
        refine (alive_calls _).mono ?_
        rintro e X ⟨rfl, hX⟩
        have c1 := (Br.fr0 hX).cell
        have c2 := (Bs.fr0 hX).cell
        go_wp2_with fail
        refine (SameI_calls (.slice a0 1 p0) _ [(k : Int)] _ (SlF.fr0 s0 (hX.alloc _)) (Sl.of_blk (Blk.new _ [_] _) (by show 1 ≤ maxLen; unfold maxLen; omega))).mono ?_
        rintro e X ⟨rfl, hfx⟩
        replace hX := (hX.alloc _).trans0 hfx
        clear hfx c1 c2
        have c1 := (Br.fr0 hX).cell
        have c2 := (Bs.fr0 hX).cell
        go_wp2_with fail
        refine (SameI_calls (.slice b1 1 r1) _ [(k : Int)] _ (SlF.fr0 t1 (hX.alloc _)) (Sl.of_blk (Blk.new _ [_] _) (by show 1 ≤ maxLen; unfold maxLen; omega))).mono ?_
        rintro e X ⟨rfl, hfx⟩
        replace hX := (hX.alloc _).trans0 hfx
        clear hfx c1 c2
        have c1 := (Br.fr0 hX).cell
        have c2 := (Bs.fr0 hX).cell
        go_wp2
        go_ret
        exact ⟨rfl, hw7.trans0 hX⟩
      · have hk' : ¬ (k : Int) < n.length := by omega
        clear kL kL1 hsn hO ho hcb
        go_wp2_with fail
        refine (alive_calls _).mono ?_
        rintro e w4 ⟨rfl, hf4⟩
        have k4 := fin w4 hf4
        clear fin
        go_wp2_with fail
        refine k4.mono ?_
        rintro e w5 ⟨v0, v1, v2, v3, rfl, s0, s1, s2, s3, hf5⟩
        clear k4
        go_wp2_with fail
        refine (Clean_calls _ _ _ _ [] [] [] [] _ s0 s1 s2 s3 (by decide) (by decide) (by decide) (by decide)).mono ?_
        rintro e w6 ⟨rfl, hf6⟩
        go_wp2
        go_ret
        exact ⟨rfl, (((hF2.trans0 hf4).trans0 hf5)).trans0 hf6⟩
end Go.Proofs.Ytmbbmombhkaeoaa
