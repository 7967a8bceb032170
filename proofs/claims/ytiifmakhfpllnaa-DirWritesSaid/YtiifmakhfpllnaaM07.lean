/-
  Package span: add, Cut, Norm.
-/
import Derived.Test.YtiifmakhfpllnaaM06
import Derived.Test.YtiifmakhfpllnaaM00
import Derived.RangeFuncNested
import Derived.RangeFuncLeaves
import Derived.RangeFuncCalls
namespace Go.Proofs.Ytiifmakhfpllnaa
open Go.RowKit Go.Maps

set_option maxRecDepth 100000 in
set_option maxHeartbeats 1600000 in
theorem addN_calls (base : Nat) (v : Value) (E : List Op3) (m k : Int) (w : World) (hown : w.ownsRow base 117 3 v E.length (E.flatMap op3C)) (hs : smallE E) (hn : E.length ≤ 1000000) (hb : base ≤ w.heap.size) (hm : 1 ≤ m ∧ m ≤ 1000000) :
    Calls Try.prog 94 #[v, .int .i64 m, .int .i64 k] w fun e w' => ∃ v', e = .returned v' ∧ w'.ownsRow base 117 3 v' (addN E m k).length ((addN E m k).flatMap op3C) ∧ Fr v.ownBlock.toList w w' ∧ ∀ x, v'.ownBlock = some x → v.ownBlock = some x ∨ w.heap.size ≤ x := by
  have hm1 : ¬ m < 1 := by omega
  by_cases h0 : E.length = 0
  · have hE : E = [] := List.eq_nil_of_length_eq_zero h0
    subst hE
    clear h0 hn
    have hsl : SlP w v [] := SlF.of_owns hown
    obtain ⟨a, cap, rfl, _, _, _⟩ := Sl.of_owns hown
    have ha : Hid (addN [] m k = [(0, m, k)]) := hidIt (by unfold addN endE; simp)
    have key := send_calls _ [] w hsl hs
    have he : endE [] = 0 := rfl
    rw [he] at key
    simp only [List.length_nil, List.flatMap_nil] at hown key ⊢
    go_enter Try.func94, Try.ntmps94
    go_wp2_with fail
    refine key.mono ?_
    rintro e w1 ⟨rfl, hf⟩
    have hown1 := owns_fr hown hf (by simp)
    have hsz := hf.size
    have hob := own_base hown
    clear key hsl hs
    go_wp2_with (at_builtin; refine Hid.out ?_)
    refine hidIt ?_
    refine wpList_append1 86 117 (.agg #[.int .i64 0, .int .i64 0, .int .i64 0]) 3 24 Try.underlying86 infoExt rfl (by decide) (by decide) rfl _ _ rfl base (.slice a 0 cap) 0 [] rfl (hown1.alloc _) (op3C (0, m, k)) rfl ext_one w1.heap.size rfl (Blk.new _ _ _) (by omega) (by simp; omega) ?_
    intro v' w2 hown2 hgrow hloc
    go_wp2
    go_ret
    refine ⟨v', rfl, ?_, ((hf.weak).alloc _).grown hgrow (fun x hx => .inl (by rw [hx]; simp)), fun x hx => by rcases hloc with h | h <;> rw [h] at hx; exact .inl hx; cases hx; exact .inr (by simp; omega)⟩
    rw [ha.out]
    simpa using hown2
  · obtain ⟨g, cap, rfl, hgb, _⟩ := owns_succ hown (by omega)
    have hlt : E.length - 1 < E.length := by omega
    have hsl : SlP w (.slice (some ⟨g, 0, none⟩) E.length cap) E := SlF.of_owns hown
    have hx := getD_some z3 hlt
    have hat : ∀ j u, (op3C (E.getD (E.length - 1) z3))[j]? = some u → j < 3 → (E.flatMap op3C)[(E.length - 1) * 3 + j]? = some u := fun j u hu hj => by
      rw [flat_at op3C 3 (fun _ => rfl) E _ j hj, hx]; exact hu
    have hlast := hs.last h0
    have d1 := owns_at hown (hat 1 _ rfl (by omega))
    have d2 := owns_at hown (hat 2 _ rfl (by omega))
    have hset := fun y => hidIt (flatE_set1 E (E.length - 1) hlt (E.getD (E.length - 1) z3).1 (E.getD (E.length - 1) z3).2.1 (E.getD (E.length - 1) z3).2.2 y hx)
    have ha : Hid (addN E m k = if E.length ≠ 0 ∧ (lastE E).2.2 = k then E.set (E.length - 1) ((lastE E).1, (lastE E).2.1 + m, (lastE E).2.2) else E ++ [(endE E, m, k)]) := hidIt (by unfold addN; rfl)
    have key := send_calls _ E w hsl hs
    unfold lastE at ha hlast
    clear hat hx hsl hs
    generalize E.getD (E.length - 1) z3 = x at *
    obtain ⟨p, q, r⟩ := x
    simp only at d1 d2 hset ha hlast
    generalize endE E = en at *
    have e1 : (E.length : Int) - 1 = ((E.length - 1 : Nat) : Int) := by omega
    have hwq : IntKind.i64.wrap (q + m) = q + m := IntWalk.i64_in _ (by omega)
    by_cases hr : r = k
    · subst hr
      rw [if_pos ⟨h0, rfl⟩] at ha
      obtain ⟨d1, f1⟩ := d1
      obtain ⟨d2, f2⟩ := d2
      clear key
      go_enter Try.func94, Try.ntmps94
      go_wp2
      go_ret
      refine ⟨_, rfl, ?_, (Fr.refl _ w).setCell (.inl (by simp [Value.ownBlock])) _, fun x hx => .inl hx⟩
      rw [ha.out, List.length_set, (hset (q + m)).out]
      exact owns_put hown _ _
    · rw [if_neg (fun h => hr h.2)] at ha
      obtain ⟨d1, f1⟩ := d1
      obtain ⟨d2, f2⟩ := d2
      clear hset
      go_enter Try.func94, Try.ntmps94
      go_wp2_with fail
      refine key.mono ?_
      rintro e w1 ⟨rfl, hf⟩
      have hown1 := owns_fr hown hf (by simp)
      have hsz := hf.size
      clear key
      go_wp2_with (at_builtin; refine Hid.out ?_)
      refine hidIt ?_
      refine wpList_append1 86 117 (.agg #[.int .i64 0, .int .i64 0, .int .i64 0]) 3 24 Try.underlying86 infoExt rfl (by decide) (by decide) rfl _ _ rfl base (.slice (some ⟨g, 0, none⟩) E.length cap) E.length (E.flatMap op3C) rfl (hown1.alloc _) (op3C (en, m, k)) rfl ext_one w1.heap.size rfl (Blk.new _ _ _) (by omega) (by simp; omega) ?_
      intro v' w2 hown2 hgrow hloc
      go_wp2
      go_ret
      refine ⟨v', rfl, ?_, ((hf.weak).alloc _).grown hgrow (fun x hx => .inl (by rw [hx]; simp)), fun x hx => by rcases hloc with h | h <;> rw [h] at hx; exact .inl hx; cases hx; exact .inr (by simp; omega)⟩
      rw [ha.out]
      simp only [List.length_append, List.length_singleton, List.flatMap_append, List.flatMap_cons, List.flatMap_nil, List.append_nil]
      exact hown2
set_option maxRecDepth 100000 in
set_option maxHeartbeats 800000 in
/-- add, by the kinds of the places -/
theorem sadd_calls (base : Nat) (v : Value) (d : List Int) (m k : Int) (w : World) (hown : w.ownsRow base 117 3 v (ofE d).length ((ofE d).flatMap op3C)) (hd : d.length ≤ 1000000) (hm : m ≤ 1000000) (hb : base ≤ w.heap.size) :
    Calls Try.prog 94 #[v, .int .i64 m, .int .i64 k] w fun e w' => ∃ v', e = .returned v' ∧ w'.ownsRow base 117 3 v' (ofE (d ++ List.replicate m.toNat k)).length ((ofE (d ++ List.replicate m.toNat k)).flatMap op3C) ∧ Fr v.ownBlock.toList w w' ∧ ∀ x, v'.ownBlock = some x → v.ownBlock = some x ∨ w.heap.size ≤ x := by
  by_cases h1 : m < 1
  · have e : m.toNat = 0 := by omega
    rw [e]
    have hown' : w.ownsRow base 117 3 v (ofE (d ++ List.replicate 0 k)).length ((ofE (d ++ List.replicate 0 k)).flatMap op3C) := by simpa using hown
    obtain ⟨a, cap, rfl, _, _, _⟩ := Sl.of_owns hown
    go_enter Try.func94, Try.ntmps94
    go_wp2
    go_ret
    exact ⟨_, rfl, hown', Fr.refl _ _, fun x hx => .inl hx⟩
  · obtain ⟨j, hj⟩ : ∃ j : Nat, m = ((j + 1 : Nat) : Int) := ⟨m.toNat - 1, by omega⟩
    subst hj
    have hR := RightE.of d
    refine (addN_calls base v (ofE d) _ k w hown (hR.small hd) (by have := ofE_len d; omega) hb (by omega)).mono ?_
    rw [addN_ofE, Int.toNat_natCast]
    exact fun e w' h => h
/-- no part -/
theorem cutE_no {l : List Op3} {f n : Int} (h : ¬ (right l = true ∧ 1 ≤ n ∧ 0 ≤ f ∧ n ≤ (flatE l).length ∧ f ≤ (flatE l).length - n)) : cutE l f n = [] := by unfold cutE; rw [if_neg h]
set_option maxRecDepth 100000 in
set_option maxHeartbeats 1600000 in
theorem sCut_yes (v : Value) (l : List Op3) (F M : Nat) (w : World) (hv : SlP w v l) (hr : right l = true) (h1 : 1 ≤ M) (h3 : M ≤ (flatE l).length) (h4 : F ≤ (flatE l).length - M) :
    Calls Try.prog 110 #[v, .int .i64 F, .int .i64 M] w fun e w' => ∃ v', e = .returned v' ∧ SlP w' v' (cutE l F M) ∧ Fr [] w w' ∧ ∀ k, v'.ownBlock = some k → w.heap.size ≤ k := by
  obtain ⟨hR, hle⟩ := right_ok hr
  have hend := hR.end
  have hsm := hR.small (by omega)
  have hll := hR.len
  have He : Hid (cutE l F M = ofE (((flatE l).take (F + M)).drop F)) := hidIt (by unfold cutE; rw [if_pos ⟨hr, by omega, by omega, by omega, by omega⟩, Int.toNat_natCast, Int.toNat_natCast, take_drop_eq])
  have Hx : ∀ k, k < l.length → Hid ((l.getD k z3).1 = ((flatE (l.take k)).length : Int) ∧ 1 ≤ (l.getD k z3).2.1 ∧ (flatE (l.take k)).length + (l.getD k z3).2.1 ≤ 65536) := fun k hk => hidIt (by
    have g1 := hR.2 k hk
    have g2 := flat_take_le l (k + 1)
    rw [flat_step hk, List.length_append, List.length_replicate] at g2
    omega)
  have Hst : ∀ k, k < l.length → Hid (((flatE (l.take (k + 1))).take (F + M)).drop F = ((flatE (l.take k)).take (F + M)).drop F ++ List.replicate (min (((flatE (l.take k)).length : Int) + (l.getD k z3).2.1) ((F : Int) + M) - max ((flatE (l.take k)).length : Int) F).toNat (l.getD k z3).2.2) := fun k hk => hidIt (by
    have g1 := (Hx k hk).out.2.1
    rw [flat_step hk, cut_step _ _ _ _ _ (by omega)]
    congr 3
    omega)
  have Hle : ∀ k, k ≤ l.length → Hid ((((flatE (l.take k)).take (F + M)).drop F).length ≤ 65536) := fun k hk => hidIt (by
    have g2 := flat_take_le l k
    simp
    omega)
  have H0 : ((flatE (l.take 0)).take (F + M)).drop F = [] := by simp [flatE]
  have Hd : Hid (((flatE (l.take l.length)).take (F + M)).drop F = ((flatE l).take (F + M)).drop F) := hidIt (by rw [List.take_length])
  generalize ((flatE l).take (F + M)).drop F = Z at *
  have keyE := fun w hv => send_calls v l w hv hsm
  rw [hend] at keyE
  have keyR := fun w hv => sRight_calls v l w hv
  rw [hr] at keyR
  have c1 : ¬ (M : Int) < 1 := by omega
  have c2 : ¬ (F : Int) < 0 := by omega
  have c3 : ¬ ((flatE l).length : Int) < (M : Int) := by omega
  have c4 : ¬ ((flatE l).length : Int) - (M : Int) < (F : Int) := by omega
  clear hend hR
  generalize (flatE l).length = T at *
  generalize hD : (fun k => ((flatE (l.take k)).take (F + M)).drop F) = D at *
  replace H0 : D 0 = [] := by rw [← hD]; exact H0
  replace Hd : Hid (D l.length = Z) := by rw [← hD]; exact Hd
  replace Hle : ∀ k, k ≤ l.length → Hid ((D k).length ≤ 65536) := by rw [← hD]; exact Hle
  generalize hA : (fun k => (flatE (l.take k)).length) = A at *
  replace Hst : ∀ k, k < l.length → Hid (D (k + 1) = D k ++ List.replicate (min ((A k : Int) + (l.getD k z3).2.1) ((F : Int) + M) - max (A k : Int) F).toNat (l.getD k z3).2.2) := by rw [← hD, ← hA]; exact Hst
  replace Hx : ∀ k, k < l.length → Hid ((l.getD k z3).1 = (A k : Int) ∧ 1 ≤ (l.getD k z3).2.1 ∧ A k + (l.getD k z3).2.1 ≤ 65536) := by rw [← hA]; exact Hx
  clear hD hA
  obtain ⟨a, cap, rfl, hlc, hcm, _⟩ := hv.open
  unfold maxLen at hcm
  go_enter Try.func110, Try.ntmps110
  go_wp2_with fail
  refine (keyR w hv).mono ?_
  rintro e w1 ⟨rfl, hf1⟩
  go_wp2_with fail
  refine (keyE w1 (SlF.fr0 hv hf1)).mono ?_
  rintro e w2 ⟨rfl, hf2⟩
  have hF2 := hf1.trans0 hf2
  go_wp2_with fail
  refine (keyE w2 (SlF.fr0 hv hF2)).mono ?_
  rintro e w3 ⟨rfl, hf3⟩
  have hF3 := hF2.trans0 hf3
  clear hf1 hf2 hf3 hF2 keyR keyE
  go_wp2_with fail
  rename_i hcnd _ _
  clear hcnd c1 c2 c3 c4
  have hsz3 := hF3.size
  go_loopw [7, 9, 10, 11, 39] (fun o _ _ _ i wr => ∃ k : Nat, k ≤ l.length ∧ i = .int .i64 k ∧ wr.ownsRow w.heap.size 117 3 o (ofE (D k)).length ((ofE (D k)).flatMap op3C) ∧ Fr [] w wr) (fun _ _ _ _ i _ => l.length - (intOf i).toNat)
  case atStart => exact ⟨0, Nat.zero_le _, rfl, by rw [H0]; exact World.ownsRow_nil _ _ _ _, hF3⟩
  case round =>
    clear hF3 hsz3
    obtain ⟨k, hk, rfl, hown, hF⟩ := hrel
    have hob := own_base hown
    have hsz := hF.size
    by_cases hlt : k < l.length
    · obtain ⟨b, off, rfl, hb, d0, d1, d2⟩ := SlP.at (hv.fr0 hF) hlt
      have hx := Hx k hlt
      have hs := Hst k hlt
      have hle' := Hle k hk
      generalize l.getD k z3 = x at *
      obtain ⟨p, q, r⟩ := x
      simp only at d0 d1 d2 hs hx
      obtain ⟨hx1, hx2, hx3⟩ := hx.out
      subst hx1
      clear Hx Hst Hle hx H0 Hd He
      generalize A k = P at *
      generalize D k = E at *
      have hw1 : IntKind.i64.wrap ((P : Int) + q) = (P : Int) + q := IntWalk.i64_in _ (by omega)
      have hw2 : IntKind.i64.wrap ((F : Int) + (M : Int)) = (F : Int) + (M : Int) := IntWalk.i64_in _ (by omega)
      go_wp2_with fail
      go_quiet (fail)
      generalize hlo : (if P < F then (F : Int) else (P : Int)) = lo at *
      generalize hhi : (if (F : Int) + (M : Int) < (P : Int) + q then (F : Int) + (M : Int) else (P : Int) + q) = hi at *
      have hs' : Hid (D (k + 1) = E ++ List.replicate (hi - lo).toNat r) := hidIt (by
        have e : min ((P : Int) + q) ((F : Int) + M) - max (P : Int) F = hi - lo := by rw [← hhi, ← hlo]; split <;> split <;> omega
        rw [hs.out, e])
      have hlo1 : 0 ≤ lo := by rw [← hlo]; split <;> omega
      have hhi1 : 0 ≤ hi ∧ hi ≤ 65536 := by rw [← hhi]; constructor <;> split <;> omega
      have hlo2 : lo ≤ 65536 := by rw [← hlo]; split <;> omega
      clear hs hlo hhi
      have hw3 : IntKind.i64.wrap (hi - lo) = hi - lo := IntWalk.i64_in _ (by omega)
      go_wp2_with fail
      refine (sadd_calls w.heap.size u7 E (hi - lo) r _ ((owns_drewN (hown.alloc _) _)) (by have := hle'.out; omega) (by omega) (by simp; omega)).mono ?_
      rintro e w4 ⟨v4, rfl, hown4, hf4, _⟩
      go_wp2
      go_roundw
      case rel => exact ⟨k + 1, by omega, by go_num, by rw [hs'.out]; exact hown4, ((hF.alloc _).drewN _).trans hf4 (fun x hx hl => by have := hob x (by simpa using hx); omega)⟩
      case measure => simp [intOf]; omega
    · have hke : k = l.length := by omega
      have Hz : Hid (ofE (D k) = cutE l F M) := hidIt (by rw [hke, Hd.out, He.out])
      have hsl : SlP wr u7 (ofE (D k)) := SlF.of_owns hown
      clear hown Hst Hx Hle H0 Hd He hke
      go_wp2
      go_ret
      exact ⟨u7, rfl, by rw [← Hz.out]; exact hsl, hF, hob⟩
set_option maxRecDepth 100000 in
set_option maxHeartbeats 1600000 in
theorem sCut_calls (v : Value) (l : List Op3) (f n : Int) (w : World) (hv : SlP w v l) : Calls Try.prog 110 #[v, .int .i64 f, .int .i64 n] w fun e w' => ∃ v', e = .returned v' ∧ SlP w' v' (cutE l f n) ∧ Fr [] w w' ∧ ∀ k, v'.ownBlock = some k → w.heap.size ≤ k := by
  by_cases hc : right l = true ∧ 1 ≤ n ∧ 0 ≤ f ∧ n ≤ (flatE l).length ∧ f ≤ (flatE l).length - n
  · obtain ⟨hr, h1, h2, h3, h4⟩ := hc
    obtain ⟨F, rfl⟩ := Int.eq_ofNat_of_zero_le h2
    obtain ⟨M, rfl⟩ := Int.eq_ofNat_of_zero_le (by omega : 0 ≤ n)
    exact sCut_yes v l F M w hv hr (by omega) (by omega) (by omega)
  · rw [cutE_no hc]
    have keyR := fun w hv => sRight_calls v l w hv
    by_cases hr : right l = true
    · obtain ⟨hR, hle⟩ := right_ok hr
      have hend := hR.end
      have hsm := hR.small (by omega)
      have keyE := fun w hv => send_calls v l w hv hsm
      rw [hend] at keyE
      rw [hr] at keyR
      have hc' : ¬ (1 ≤ n ∧ 0 ≤ f ∧ n ≤ (flatE l).length ∧ f ≤ (flatE l).length - n) := fun h => hc ⟨hr, h⟩
      clear hend hR hc hsm
      generalize (flatE l).length = T at *
      obtain ⟨a, cap, rfl, hlc, hcm, _⟩ := hv.open
      by_cases c1 : n < 1
      · clear hc' keyE
        go_enter Try.func110, Try.ntmps110
        go_wp2_with fail
        refine (keyR w hv).mono ?_
        rintro e w1 ⟨rfl, hf1⟩
        go_wp2
        go_ret
        exact ⟨_, rfl, Sl.nil _, hf1, fun _ h => by cases h⟩
      · by_cases c2 : f < 0
        · clear hc' keyE
          go_enter Try.func110, Try.ntmps110
          go_wp2_with fail
          refine (keyR w hv).mono ?_
          rintro e w1 ⟨rfl, hf1⟩
          go_wp2
          go_ret
          exact ⟨_, rfl, Sl.nil _, hf1, fun _ h => by cases h⟩
        · by_cases c3 : (T : Int) < n
          · clear hc'
            go_enter Try.func110, Try.ntmps110
            go_wp2_with fail
            refine (keyR w hv).mono ?_
            rintro e w1 ⟨rfl, hf1⟩
            go_wp2_with fail
            refine (keyE w1 (SlF.fr0 hv hf1)).mono ?_
            rintro e w2 ⟨rfl, hf2⟩
            go_wp2
            go_ret
            exact ⟨_, rfl, Sl.nil _, hf1.trans0 hf2, fun _ h => by cases h⟩
          · have c4 : (T : Int) - n < f := by omega
            have hw1 : IntKind.i64.wrap ((T : Int) - n) = (T : Int) - n := IntWalk.i64_in _ (by omega)
            clear hc'
            go_enter Try.func110, Try.ntmps110
            go_wp2_with fail
            refine (keyR w hv).mono ?_
            rintro e w1 ⟨rfl, hf1⟩
            go_wp2_with fail
            refine (keyE w1 (SlF.fr0 hv hf1)).mono ?_
            rintro e w2 ⟨rfl, hf2⟩
            have hF2 := hf1.trans0 hf2
            go_wp2_with fail
            refine (keyE w2 (SlF.fr0 hv hF2)).mono ?_
            rintro e w3 ⟨rfl, hf3⟩
            go_wp2
            go_ret
            exact ⟨_, rfl, Sl.nil _, hF2.trans0 hf3, fun _ h => by cases h⟩
    · have hr' : right l = false := by simpa using hr
      rw [hr'] at keyR
      obtain ⟨a, cap, rfl, hlc, hcm, _⟩ := hv.open
      go_enter Try.func110, Try.ntmps110
      go_wp2_with fail
      refine (keyR w hv).mono ?_
      rintro e w1 ⟨rfl, hf1⟩
      go_wp2
      go_ret
      exact ⟨_, rfl, Sl.nil _, hf1, fun _ h => by cases h⟩
set_option maxRecDepth 100000 in
set_option maxHeartbeats 1600000 in
theorem sNorm_calls (v : Value) (l : List Op3) (w : World) (hv : SlP w v l) : Calls Try.prog 97 #[v] w fun e w' => ∃ v', e = .returned v' ∧ SlP w' v' (ofE (kindsE l)) ∧ Fr [] w w' ∧ ∀ k, v'.ownBlock = some k → w.heap.size ≤ k := by
  have key := fun w hv => sCut_calls v l 0 (kindsE l).length w hv
  rw [norm_eq] at key
  obtain ⟨a, cap, rfl, hlc, hcm, _⟩ := hv.open
  go_enter Try.func97, Try.ntmps97
  go_wp2_with fail
  refine (sLong_calls _ l w hv).mono ?_
  rintro e w1 ⟨rfl, hf1⟩
  go_wp2_with fail
  refine (key w1 (SlF.fr0 hv hf1)).mono ?_
  rintro e w2 ⟨v2, rfl, hs2, hf2, hb2⟩
  have hsz := hf1.size
  go_wp2
  go_ret
  exact ⟨v2, rfl, hs2, hf1.trans0 hf2, fun k hk => Nat.le_trans hsz (hb2 k hk)⟩
end Go.Proofs.Ytiifmakhfpllnaa

namespace Go.Proofs.Ytiifmakhfpllnaa
open Go Go.RowKit

theorem Fr.putObj {w : World} (l : Nat) (o : Obj) : Fr [l] w (w.putObj l o) := by
  have := Fr.of_grown (grownBy_putObj' w l o)
  simpa using this

/-- The iterator gf (its captured values lb), from the world w on: it hands out N rounds, or is told to stop. M: blocks of its own that it may turn; K: blocks that it reads. -/
def Seq (P : Program) (gf : Nat) (lb : Array Value) (M : List Nat) (K : Nat → Prop) (N : Nat) (enc : Nat → World → Array Value → Prop) (w : World) : Prop :=
  ∀ (l : Nat) (J : Nat → List Nat → World → Prop) (Jx : World → Prop) (fp : List Nat) (W : World), Fr [] w W → w.heap.size ≤ l → l < W.heap.size →
    (∀ k f A B M', J k f A → Fr M' A B → (∀ x ∈ M', x ∈ M ∨ (W.heap.size ≤ x ∧ x ∉ f)) → J k f B) →
    (∀ A B, Jx A → Fr [] A B → Jx B) →
    (∀ x ∈ fp, x < W.heap.size ∧ ¬ K x) → J 0 fp W →
    (∀ k f A args, k < N → J k f A → enc k A args → YieldAt Fence.wide 0 P l args A fun e B =>
      (e = .returned (.bool true) ∧ ∃ f', J (k + 1) f' B ∧ Fr f A B ∧ ∀ x ∈ f', x < B.heap.size ∧ (x ∈ f ∨ A.heap.size ≤ x)) ∨ (e = .returned (.bool false) ∧ Jx B)) →
    CallsIn Fence.wide 0 P gf (#[.func (.yield l) #[] #[]] ++ lb) W fun e W' => (∃ v, e = .returned v) ∧ ((∃ f, J N f W') ∨ Jx W')

/-- How a round's body may be left. -/
def seqPost (J : Nat → List Nat → World → Prop) (Jx : Code → List Nat → World → Prop) (k : Nat) (f : List Nat) (A : World) : Exit → Act → World → Prop
  | .normal, _, B => ∃ f', J (k + 1) f' B ∧ Fr f A B ∧ ∀ x ∈ f', x < B.heap.size ∧ (x ∈ f ∨ A.heap.size ≤ x)
  | .ret, _, B => ∃ f', Jx .ret f' B ∧ Fr f A B ∧ ∀ x ∈ f', x < B.heap.size ∧ (x ∈ f ∨ A.heap.size ≤ x)
  | .exit id, _, B => ∃ f', Jx (.exit id) f' B ∧ Fr f A B ∧ ∀ x ∈ f', x < B.heap.size ∧ (x ∈ f ∨ A.heap.size ≤ x)
  | .goto t, _, B => ∃ f', Jx (.goto t) f' B ∧ Fr f A B ∧ ∀ x ∈ f', x < B.heap.size ∧ (x ∈ f ∨ A.heap.size ≤ x)
  | .panic _, _, _ => False
  | .outgrown, _, _ => False

/-- The block of the rounds' deferred calls, among the activation's own. -/
abbrev markOf (D : Nat) : Deferred := { target := .collected D, args := #[] }

set_option maxHeartbeats 1000000 in
theorem wp_rangeFunc_seqL {P : Program} {g : Operand} {ps : Array Tmp} {assign body : Code} {Q : Exit → Act → World → Prop} {a : Act} {w : World} {gf : Nat} {lb : Array Value} {M : List Nat} {K : Nat → Prop} {N : Nat}
    {enc : Nat → World → Array Value → Prop} {w0 : World} (hg : a.eval g = .func (.func gf) #[] lb) (eg : ∀ args w, (callFunc gf args).run P w = .ok (.enter gf args) w) (hseq : Seq P gf lb M K N enc w0) (hw0 : Fr [] w0 w)
    (J : Nat → List Nat → World → Prop) (Jx : Code → List Nat → World → Prop) (fp : List Nat)
    (hst : ∀ k f A B M', J k f A → Fr M' A B → (∀ x ∈ M', x ∈ M ∨ (w.heap.size ≤ x ∧ x ∉ f)) → J k f B)
    (hsx : ∀ c f A B M', Jx c f A → Fr M' A B → (∀ x ∈ M', w.heap.size ≤ x ∧ x ∉ f) → Jx c f B)
    (hM : ∀ x ∈ M, x < w.heap.size) (hfp : ∀ x ∈ fp, x < w.heap.size ∧ ¬ K x) (h0 : J 0 fp w)
    (hround : ∀ l k f A args, w.heap.size < l → l < A.heap.size → l ∉ f → (∀ x ∈ f, x < A.heap.size) → k < N → J k f A → enc k A args → (∃ r, A.heap[l]? = some (.loop r)) → args.size = ps.size ∧
      assign.wpIn (Fence.wide.inRound l) 0 P (Exit.then (fun a₁ A₁ => J k f A₁ ∧ Fr [] A A₁ ∧ ∀ A₂, J k f A₂ → Fr [l] A₁ A₂ → A₂.heap.size = A₁.heap.size →
        body.wpIn (Fence.wide.inRound l) 0 P (seqPost J Jx k f A₂) a₁ A₂) (fun _ _ _ => False)) { tmps := (ps.zip args).foldl (fun t (p, v) => t.setIfInBounds p v) a.tmps, defers := [] } A)
    (hdone : ∀ D f W, w.heap.size ≤ D → D ∉ f → J N f W → W.heap[D]? = some (.deferred (some [])) → Q .normal { a with defers := markOf D :: a.defers } W)
    (hstop : ∀ D c f W, w.heap.size ≤ D → D ∉ f → Jx c f W → W.heap[D]? = some (.deferred (some [])) → c.wp P Q { a with defers := markOf D :: a.defers } W) :
    (Code.rangeFunc g ps assign body).wp P Q a w := by
  refine (wpIn_wide (n := 0)).1 (wpIn_rangeFunc ?_)
  intro fn hfn
  obtain ⟨rec, hrec⟩ : ∃ rec : LoopState → Option Code → Loop, rec = fun st pe => { state := st, pending := pe, fn, tmps := a.tmps, params := ps, assign, body, defers := w.heap.size } := ⟨_, rfl⟩
  obtain ⟨W1, hW1⟩ : ∃ W1, (w.alloc (.deferred (some []))).alloc (.loop (rec .ready none)) = W1 := ⟨_, rfl⟩
  have hL1 : W1.heap[w.heap.size + 1]? = some (.loop (rec .ready none)) := by
    rw [← hW1]; have := World.alloc_heap_new (w.alloc (.deferred (some []))) (.loop (rec .ready none)); rwa [World.size_alloc] at this
  have hK1 : W1.heap[w.heap.size]? = some (.deferred (some [])) := by
    rw [← hW1]; exact (Below.heap_alloc _ _ _ (by simp)).trans (World.alloc_heap_new w _)
  have hF1 : Fr [] w W1 := by rw [← hW1]; exact ((Fr.refl [] w).alloc _).alloc _
  have hs1 : W1.heap.size = w.heap.size + 2 := by rw [← hW1]; simp
  have hz := hw0.size
  have hj0 : J 0 fp W1 := hst 0 fp w W1 [] h0 hF1 (fun x h => by cases h)
  refine ⟨w.heap.size + 1, [markOf w.heap.size], W1, { target := .fn (.func gf) lb, args := #[.func (.yield (w.heap.size + 1)) #[] #[]] }, W1, gf,
    #[.func (.yield (w.heap.size + 1)) #[] #[]] ++ lb, W1, ?_, ?_, fun f' _ => trivial, ?_, fun h => (by cases h), ?_⟩
  · rw [← hW1, hrec]; exact run_enterLoop_outer _ _ _ _ _
  · simp only [resolve, hg]
    simp [go_sem]
  · simp [invoke, go_sem, eg]
  refine (hseq (w.heap.size + 1)
    (fun k f W => J k f W ∧ (w.heap.size ∉ f ∧ w.heap.size + 1 ∉ f ∧ ∀ x ∈ f, x < W.heap.size) ∧ W.heap[w.heap.size + 1]? = some (.loop (rec .ready none)) ∧ W.heap[w.heap.size]? = some (.deferred (some [])))
    (fun W => ∃ c f, Jx c f W ∧ (w.heap.size ∉ f ∧ w.heap.size + 1 ∉ f) ∧ W.heap[w.heap.size + 1]? = some (.loop (rec .done (some c))) ∧ W.heap[w.heap.size]? = some (.deferred (some [])))
    fp W1 (hw0.trans0 hF1) (by omega) (by omega) ?_ ?_ (fun x hx => ⟨by have := (hfp x hx).1; omega, (hfp x hx).2⟩) ⟨hj0, ⟨fun h => by have := (hfp _ h).1; omega, fun h => by have := (hfp _ h).1; omega, fun x hx => by have := (hfp x hx).1; omega⟩, hL1, hK1⟩ ?_).mono ?_
  · rintro k f A B M' ⟨hj, ⟨hd, hl, hlt⟩, hL, hK⟩ hF hM'
    have nl : ∀ x, x = w.heap.size ∨ x = w.heap.size + 1 → x ∉ M' := fun x hx hm => by
      rcases hM' x hm with h | ⟨h, _⟩
      · have := hM x h; omega
      · omega
    exact ⟨hst k f A B M' hj hF (fun x hx => (hM' x hx).imp id (fun h => ⟨by omega, h.2⟩)), ⟨hd, hl, fun x hx => Nat.lt_of_lt_of_le (hlt x hx) hF.size⟩,
      (hF.block _ (Array.getElem?_eq_some_iff.1 hL).1 (nl _ (.inr rfl))).trans hL, (hF.block _ (Array.getElem?_eq_some_iff.1 hK).1 (nl _ (.inl rfl))).trans hK⟩
  · rintro A B ⟨c, f, hj, hd, hL, hK⟩ hF
    exact ⟨c, f, hsx c f A B [] hj hF (fun x h => by cases h), hd, (hF.block _ (Array.getElem?_eq_some_iff.1 hL).1 (by simp)).trans hL, (hF.block _ (Array.getElem?_eq_some_iff.1 hK).1 (by simp)).trans hK⟩
  · rintro k f A args hkN ⟨hj, ⟨hd, hl, hlt⟩, hL, hK⟩ henc
    have hlA : w.heap.size + 1 < A.heap.size := (Array.getElem?_eq_some_iff.1 hL).1
    obtain ⟨hsz, hwalk⟩ := hround (w.heap.size + 1) k f A args (by omega) hlA hl hlt hkN hj henc ⟨_, hL⟩
    have hy := run_yield (P := P) (args := args) hL (by rw [hrec]; exact hsz)
    rw [hrec] at hy
    refine ⟨fn, _, assign, body, hy, roundIn_of_wpIn hfn (wpIn_mono hwalk ?_)⟩
    rintro e a₁ A₁ h
    cases e with
    | normal =>
      obtain ⟨hj1, hFA, hbody⟩ := h
      have hL' := (hFA.block _ hlA (by simp)).trans hL
      have hK' := (hFA.block _ (Array.getElem?_eq_some_iff.1 hK).1 (by simp)).trans hK
      have hlA1 : w.heap.size + 1 < A₁.heap.size := (Array.getElem?_eq_some_iff.1 hL').1
      refine ⟨_, run_beginRound hL' (by rw [hrec]), ?_⟩
      have hFb : Fr [w.heap.size + 1] A₁ (A₁.putObj (w.heap.size + 1) (.loop { rec .ready none with state := .busy })) := Fr.putObj _ _
      have hj2 := hst k f _ _ _ hj1 hFb (fun x hx => by have := List.mem_singleton.1 hx; subst this; exact .inr ⟨by omega, hl⟩)
      refine wpIn_mono (hbody _ hj2 hFb (by simp)) ?_
      have hL2 : (A₁.putObj (w.heap.size + 1) (.loop { rec .ready none with state := .busy })).heap[w.heap.size + 1]? = some (.loop { rec .ready none with state := .busy }) := World.putObj_heap_same hlA1
      have hK2 : (A₁.putObj (w.heap.size + 1) (.loop { rec .ready none with state := .busy })).heap[w.heap.size]? = some (.deferred (some [])) := (World.putObj_heap_other (by omega)).trans hK'
      generalize hA2 : A₁.putObj (w.heap.size + 1) (.loop { rec .ready none with state := .busy }) = A₂ at *
      have hsz2 : A₂.heap.size = A₁.heap.size := by rw [← hA2]; simp
      have fin : ∀ (jump : Option Code) (B : World), Fr f A₂ B →
          (Instr.endRound (w.heap.size + 1) jump).run P B = .ok (.bool jump.isNone) (B.putObj (w.heap.size + 1) (.loop (rec (if jump.isNone then .ready else .done) jump))) ∧
          (B.putObj (w.heap.size + 1) (.loop (rec (if jump.isNone then .ready else .done) jump))).heap[w.heap.size + 1]? = some (.loop (rec (if jump.isNone then .ready else .done) jump)) ∧
          (B.putObj (w.heap.size + 1) (.loop (rec (if jump.isNone then .ready else .done) jump))).heap[w.heap.size]? = some (.deferred (some [])) := fun jump B hB => by
        have hL3 := (hB.block _ (by omega) hl).trans hL2
        have hK3 := (hB.block _ (by omega) hd).trans hK2
        have := run_endRound (P := P) jump hL3
        rw [hrec] at this ⊢
        exact ⟨this, World.putObj_heap_same (Array.getElem?_eq_some_iff.1 hL3).1, (World.putObj_heap_other (by omega)).trans hK3⟩
      have grow : ∀ (B : World) (f' : List Nat), Fr f A₂ B → (∀ x ∈ f', x < B.heap.size ∧ (x ∈ f ∨ A₂.heap.size ≤ x)) → w.heap.size ∉ f' ∧ w.heap.size + 1 ∉ f' := fun B f' _ hf' =>
        ⟨fun h => by rcases (hf' _ h).2 with h | h; exact hd h; omega, fun h => by rcases (hf' _ h).2 with h | h; exact hl h; omega⟩
      rintro e a₃ B hp
      have leave : ∀ (c : Code) (f' : List Nat), Jx c f' B → Fr f A₂ B → (∀ x ∈ f', x < B.heap.size ∧ (x ∈ f ∨ A₂.heap.size ≤ x)) →
          ∃ v W', (Instr.endRound (w.heap.size + 1) (some c)).run P B = .ok v W' ∧ v = .bool false ∧
            ∃ c f, Jx c f W' ∧ (w.heap.size ∉ f ∧ w.heap.size + 1 ∉ f) ∧ W'.heap[w.heap.size + 1]? = some (.loop (rec .done (some c))) ∧ W'.heap[w.heap.size]? = some (.deferred (some [])) := fun c f' hx hFB hg' => by
        obtain ⟨hr, hl3, hk3⟩ := fin (some c) B hFB
        have hn := grow B f' hFB hg'
        exact ⟨_, _, hr, rfl, c, f', hsx c f' _ _ _ hx (Fr.putObj _ _) (fun x hx => by have := List.mem_singleton.1 hx; subst this; exact ⟨by omega, hn.2⟩), hn, hl3, hk3⟩
      cases e with
      | normal =>
        obtain ⟨f', hj3, hFB, hg'⟩ := hp
        obtain ⟨hr, hl3, hk3⟩ := fin none B hFB
        have hn := grow B f' hFB hg'
        refine ⟨_, _, hr, .inl ⟨rfl, f', ⟨hst (k + 1) f' _ _ _ hj3 (Fr.putObj _ _) (fun x hx => by have := List.mem_singleton.1 hx; subst this; exact .inr ⟨by omega, hn.2⟩),
          ⟨hn.1, hn.2, fun x hx => by have := (hg' x hx).1; simpa using this⟩, hl3, hk3⟩, ?_, fun x hx => ?_⟩⟩
        · have q1 := hFA.size
          have q2 := hFB.size
          refine ⟨hFB.os.trans (hFb.os.trans hFA.os), hFB.tape.trans (hFb.tape.trans hFA.tape), hFB.output.trans (hFb.output.trans hFA.output), by simp; omega, fun x hx hxf => ?_⟩
          by_cases hxl : x = w.heap.size + 1
          · subst hxl
            exact hl3.trans hL.symm
          · exact (World.putObj_heap_other hxl).trans ((hFB.block x (by omega) hxf).trans ((hFb.block x (by omega) (by simp [hxl])).trans (hFA.block x hx (by simp))))
        · have := hg' x hx
          have q1 := hFA.size
          exact ⟨by simpa using this.1, this.2.imp id (fun h => by omega)⟩
      | ret =>
        obtain ⟨f', hx, hFB, hg'⟩ := hp
        obtain ⟨v, W', hr, hv, hrest⟩ := leave _ f' hx hFB hg'
        exact ⟨v, W', hr, .inr ⟨by rw [hv], hrest⟩⟩
      | exit id =>
        obtain ⟨f', hx, hFB, hg'⟩ := hp
        obtain ⟨v, W', hr, hv, hrest⟩ := leave _ f' hx hFB hg'
        exact ⟨v, W', hr, .inr ⟨by rw [hv], hrest⟩⟩
      | goto t =>
        obtain ⟨f', hx, hFB, hg'⟩ := hp
        obtain ⟨v, W', hr, hv, hrest⟩ := leave _ f' hx hFB hg'
        exact ⟨v, W', hr, .inr ⟨by rw [hv], hrest⟩⟩
      | panic ch => exact hp.elim
      | outgrown => exact hp.elim
    | ret => exact h.elim
    | exit id => exact h.elim
    | goto t => exact h.elim
    | panic ch => exact h.elim
    | outgrown => exact h.elim
  · rintro e W2 ⟨⟨v, rfl⟩, (⟨f, hj, ⟨hd, hl, _⟩, hL, hK⟩ | ⟨c, f, hx, ⟨hd, hl⟩, hL, hK⟩)⟩
    · have he := run_endLoop (P := P) hL (by rw [hrec]; simp)
      rw [hrec] at he
      exact ⟨none, _, he, hdone _ f _ (Nat.le_refl _) hd (hst N f _ _ _ hj (Fr.putObj _ _) (fun x hx => by have := List.mem_singleton.1 hx; subst this; exact .inr ⟨by omega, hl⟩)) ((World.putObj_heap_other (by omega)).trans hK)⟩
    · have he := run_endLoop (P := P) hL (by rw [hrec]; simp)
      rw [hrec] at he
      exact ⟨some c, _, he, wpIn_wide.2 (hstop _ c f _ (Nat.le_refl _) hd (hsx c f _ _ _ hx (Fr.putObj _ _) (fun x hx => by have := List.mem_singleton.1 hx; subst this; exact ⟨by omega, hl⟩)) ((World.putObj_heap_other (by omega)).trans hK))⟩
set_option maxHeartbeats 1000000 in
theorem wp_rangeFunc_seq {P : Program} {g : Operand} {ps : Array Tmp} {assign body : Code} {Q : Exit → Act → World → Prop} {a : Act} {w : World} {gf : Nat} {lb : Array Value} {M : List Nat} {K : Nat → Prop} {N : Nat}
    {enc : Nat → World → Array Value → Prop} {w0 : World} (hg : a.eval g = .func (.func gf) #[] lb) (eg : ∀ args w, (callFunc gf args).run P w = .ok (.enter gf args) w) (hseq : Seq P gf lb M K N enc w0) (hw0 : Fr [] w0 w)
    (J : Nat → List Nat → World → Prop) (Jx : Code → List Nat → World → Prop) (fp : List Nat)
    (hst : ∀ k f A B M', J k f A → Fr M' A B → (∀ x ∈ M', x ∈ M ∨ (w.heap.size ≤ x ∧ x ∉ f)) → J k f B)
    (hsx : ∀ c f A B M', Jx c f A → Fr M' A B → (∀ x ∈ M', w.heap.size ≤ x ∧ x ∉ f) → Jx c f B)
    (hM : ∀ x ∈ M, x < w.heap.size) (hfp : ∀ x ∈ fp, x < w.heap.size ∧ ¬ K x) (h0 : J 0 fp w)
    (hround : ∀ l k f A args, w.heap.size < l → l < A.heap.size → l ∉ f → (∀ x ∈ f, x < A.heap.size) → k < N → J k f A → enc k A args → args.size = ps.size ∧
      assign.wpIn (Fence.wide.inRound l) 0 P (Exit.then (fun a₁ A₁ => J k f A₁ ∧ Fr [] A A₁ ∧ ∀ A₂, J k f A₂ → Fr [l] A₁ A₂ → A₂.heap.size = A₁.heap.size →
        body.wpIn (Fence.wide.inRound l) 0 P (seqPost J Jx k f A₂) a₁ A₂) (fun _ _ _ => False)) { tmps := (ps.zip args).foldl (fun t (p, v) => t.setIfInBounds p v) a.tmps, defers := [] } A)
    (hdone : ∀ D f W, w.heap.size ≤ D → D ∉ f → J N f W → W.heap[D]? = some (.deferred (some [])) → Q .normal { a with defers := markOf D :: a.defers } W)
    (hstop : ∀ D c f W, w.heap.size ≤ D → D ∉ f → Jx c f W → W.heap[D]? = some (.deferred (some [])) → c.wp P Q { a with defers := markOf D :: a.defers } W) :
    (Code.rangeFunc g ps assign body).wp P Q a w :=
  wp_rangeFunc_seqL hg eg hseq hw0 J Jx fp hst hsx hM hfp h0 (fun l k f A args h1 h2 h3 h4 h5 h6 h7 _ => hround l k f A args h1 h2 h3 h4 h5 h6 h7) hdone hstop
/-! ### a function that holds such a statement: its entering, its leaving; what the rounds' invariant abides -/
theorem calls_marks {P : Program} {f : FuncId} {fn : Func} {c : Code} {args : Array Value} {w : World} {R : Ending → World → Prop} (hf : P.funcs[f]? = some fn) (hb : fn.body = some c)
    (h : c.wp P (bodyPostM Fence.wide 0 P fn R) { tmps := args ++ Array.replicate (fn.ntmps - args.size) undef, defers := [] } w) : Calls P f args w R :=
  callsIn_wide.1 (callsIn_of_wp_marks (n := 0) hf hb trivial (wpIn_wide.2 h))
theorem leave_mark {P : Program} {fn : Func} {R : Ending → World → Prop} {a : Act} {W : World} {D : Nat} {v : Value} (hd : a.defers = [markOf D]) (hK : W.heap[D]? = some (.deferred (some [])))
    (hr : ∀ W', Fr [D] W W' → (results fn a.tmps).run P W' = .ok v W') (hR : ∀ W', Fr [D] W W' → R (.returned v) W') : bodyPostM Fence.wide 0 P fn R .ret a W := by
  show LeavesInM Fence.wide 0 P fn a.tmps R a.defers FrameMode.returning W
  rw [hd]
  exact ⟨by simp, .inl ⟨D, _, rfl, run_takeDeferred hK, v, hr _ (Fr.putObj _ _), hR _ (Fr.putObj _ _)⟩⟩
theorem leave_plain {P : Program} {fn : Func} {R : Ending → World → Prop} {a : Act} {W : World} {v : Value} (hd : a.defers = []) (hr : (results fn a.tmps).run P W = .ok v W) (hR : R (.returned v) W) : bodyPostM Fence.wide 0 P fn R .ret a W := by
  show LeavesInM Fence.wide 0 P fn a.tmps R a.defers FrameMode.returning W
  rw [hd]
  exact ⟨v, hr, hR⟩
section
variable {M M' f : List Nat} {s : Nat} {A B : World}
theorem stab_fr {w : World} (h : Fr [] w A) (k : Fr M' A B) (hM : ∀ x ∈ M', x ∈ M ∨ (s ≤ x ∧ x ∉ f)) (hs : w.heap.size ≤ s) (hm : ∀ x ∈ M, w.heap.size ≤ x) : Fr [] w B :=
  h.trans k (fun x hx hl => by rcases hM x hx with h1 | h1; have := hm x h1; omega; omega)
theorem stab_blk {b : Nat} {cs : List Value} {t : TypeId} (h : Blk A b cs t) (k : Fr M' A B) (hM : ∀ x ∈ M', x ∈ M ∨ (s ≤ x ∧ x ∉ f)) (hb : b < s) (hm : b ∉ M) : Blk B b cs t :=
  h.fr k (fun hx => by rcases hM b hx with h1 | h1; exact hm h1; omega)
theorem stab_own {base n size : Nat} {e : TypeId} {v : Value} {xs : List Value} (h : A.ownsRow base e size v n xs) (k : Fr M' A B) (hM : ∀ x ∈ M', x ∈ M ∨ (s ≤ x ∧ x ∉ f)) (hv : ∀ x, v.ownBlock = some x → x ∈ f ∧ x ∉ M) : B.ownsRow base e size v n xs :=
  owns_fr h k (fun x hx hm => by rcases hM x hm with h1 | h1; exact (hv x hx).2 h1; exact h1.2 (hv x hx).1)
end
end Go.Proofs.Ytiifmakhfpllnaa
