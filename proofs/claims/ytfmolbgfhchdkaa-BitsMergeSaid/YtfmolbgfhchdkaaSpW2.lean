/-
  Package span: add, Cut, Norm.
-/
import Derived.Test.YtfmolbgfhchdkaaSpW1
namespace Go.Proofs.Ytfmolbgfhchdkaa
open Go.RowKit Go.Maps

set_option maxRecDepth 100000 in
set_option maxHeartbeats 1600000 in
theorem addN_calls (base : Nat) (v : Value) (E : List Op3) (m k : Int) (w : World) (hown : w.ownsRow base 45 3 v E.length (E.flatMap op3C)) (hs : smallE E) (hn : E.length ≤ 1000000) (hb : base ≤ w.heap.size) (hm : 1 ≤ m ∧ m ≤ 1000000) :
    Calls Try.prog 57 #[v, .int .i64 m, .int .i64 k] w fun e w' => ∃ v', e = .returned v' ∧ w'.ownsRow base 45 3 v' (addN E m k).length ((addN E m k).flatMap op3C) ∧ Fr v.ownBlock.toList w w' ∧ ∀ x, v'.ownBlock = some x → v.ownBlock = some x ∨ w.heap.size ≤ x := by
  have hm1 : ¬ m < 1 := by omega
  by_cases h0 : E.length = 0
  · have hE : E = [] := List.eq_nil_of_length_eq_zero h0
    subst hE
    clear h0 hn
    have hsl : SlP w v [] := SlF.of_owns hown
    obtain ⟨a, cap, rfl, _, _, _⟩ := Sl.of_owns hown
    have ha : Hid (addN [] m k = [(0, m, k)]) := hidIt (by unfold addN endE; simp)
    have key := send_calls _ [] w hsl hs
    have he : endE [] = 0 := rfl
    rw [he] at key
    simp only [List.length_nil, List.flatMap_nil] at hown key ⊢
    go_enter Try.func57, Try.ntmps57
    go_wp2_with fail
    refine key.mono ?_
    rintro e w1 ⟨rfl, hf⟩
    have hown1 := owns_fr hown hf (by simp)
    have hsz := hf.size
    have hob := own_base hown
    clear key hsl hs
    go_wp2_with (at_builtin; refine Hid.out ?_)
    refine hidIt ?_
    refine wpList_append1 42 45 (.agg #[.int .i64 0, .int .i64 0, .int .i64 0]) 3 24 Try.underlying42 infoExt rfl (by decide) (by decide) rfl _ _ rfl base (.slice a 0 cap) 0 [] rfl (hown1.alloc _) (op3C (0, m, k)) rfl ext_one w1.heap.size rfl (Blk.new _ _ _) (by omega) (by simp; omega) ?_
    intro v' w2 hown2 hgrow hloc
    go_wp2
    go_ret
    refine ⟨v', rfl, ?_, ((hf.weak).alloc _).grown hgrow (fun x hx => .inl (by rw [hx]; simp)), fun x hx => by rcases hloc with h | h <;> rw [h] at hx; exact .inl hx; cases hx; exact .inr (by simp; omega)⟩
    rw [ha.out]
    simpa using hown2
  · obtain ⟨g, cap, rfl, hgb, _⟩ := owns_succ hown (by omega)
    have hlt : E.length - 1 < E.length := by omega
    have hsl : SlP w (.slice (some ⟨g, 0, none⟩) E.length cap) E := SlF.of_owns hown
    have hx := getD_some z3 hlt
    have hat : ∀ j u, (op3C (E.getD (E.length - 1) z3))[j]? = some u → j < 3 → (E.flatMap op3C)[(E.length - 1) * 3 + j]? = some u := fun j u hu hj => by
      rw [flat_at op3C 3 (fun _ => rfl) E _ j hj, hx]; exact hu
    have hlast := hs.last h0
    have d1 := owns_at hown (hat 1 _ rfl (by omega))
    have d2 := owns_at hown (hat 2 _ rfl (by omega))
    have hset := fun y => hidIt (flatE_set1 E (E.length - 1) hlt (E.getD (E.length - 1) z3).1 (E.getD (E.length - 1) z3).2.1 (E.getD (E.length - 1) z3).2.2 y hx)
    have ha : Hid (addN E m k = if E.length ≠ 0 ∧ (lastE E).2.2 = k then E.set (E.length - 1) ((lastE E).1, (lastE E).2.1 + m, (lastE E).2.2) else E ++ [(endE E, m, k)]) := hidIt (by unfold addN; rfl)
    have key := send_calls _ E w hsl hs
    unfold lastE at ha hlast
    clear hat hx hsl hs
    generalize E.getD (E.length - 1) z3 = x at *
    obtain ⟨p, q, r⟩ := x
    simp only at d1 d2 hset ha hlast
    generalize endE E = en at *
    have e1 : (E.length : Int) - 1 = ((E.length - 1 : Nat) : Int) := by omega
    have hwq : IntKind.i64.wrap (q + m) = q + m := IntWalk.i64_in _ (by omega)
    by_cases hr : r = k
    · subst hr
      rw [if_pos ⟨h0, rfl⟩] at ha
      obtain ⟨d1, f1⟩ := d1
      obtain ⟨d2, f2⟩ := d2
      clear key
      go_enter Try.func57, Try.ntmps57
      go_wp2
      go_ret
      refine ⟨_, rfl, ?_, (Fr.refl _ w).setCell (.inl (by simp [Value.ownBlock])) _, fun x hx => .inl hx⟩
      rw [ha.out, List.length_set, (hset (q + m)).out]
      exact owns_put hown _ _
    · rw [if_neg (fun h => hr h.2)] at ha
      obtain ⟨d1, f1⟩ := d1
      obtain ⟨d2, f2⟩ := d2
      clear hset
      go_enter Try.func57, Try.ntmps57
      go_wp2_with fail
      refine key.mono ?_
      rintro e w1 ⟨rfl, hf⟩
      have hown1 := owns_fr hown hf (by simp)
      have hsz := hf.size
      clear key
      go_wp2_with (at_builtin; refine Hid.out ?_)
      refine hidIt ?_
      refine wpList_append1 42 45 (.agg #[.int .i64 0, .int .i64 0, .int .i64 0]) 3 24 Try.underlying42 infoExt rfl (by decide) (by decide) rfl _ _ rfl base (.slice (some ⟨g, 0, none⟩) E.length cap) E.length (E.flatMap op3C) rfl (hown1.alloc _) (op3C (en, m, k)) rfl ext_one w1.heap.size rfl (Blk.new _ _ _) (by omega) (by simp; omega) ?_
      intro v' w2 hown2 hgrow hloc
      go_wp2
      go_ret
      refine ⟨v', rfl, ?_, ((hf.weak).alloc _).grown hgrow (fun x hx => .inl (by rw [hx]; simp)), fun x hx => by rcases hloc with h | h <;> rw [h] at hx; exact .inl hx; cases hx; exact .inr (by simp; omega)⟩
      rw [ha.out]
      simp only [List.length_append, List.length_singleton, List.flatMap_append, List.flatMap_cons, List.flatMap_nil, List.append_nil]
      exact hown2
set_option maxRecDepth 100000 in
set_option maxHeartbeats 800000 in
/-- add, by the kinds of the places -/
theorem sadd_calls (base : Nat) (v : Value) (d : List Int) (m k : Int) (w : World) (hown : w.ownsRow base 45 3 v (ofE d).length ((ofE d).flatMap op3C)) (hd : d.length ≤ 1000000) (hm : m ≤ 1000000) (hb : base ≤ w.heap.size) :
    Calls Try.prog 57 #[v, .int .i64 m, .int .i64 k] w fun e w' => ∃ v', e = .returned v' ∧ w'.ownsRow base 45 3 v' (ofE (d ++ List.replicate m.toNat k)).length ((ofE (d ++ List.replicate m.toNat k)).flatMap op3C) ∧ Fr v.ownBlock.toList w w' ∧ ∀ x, v'.ownBlock = some x → v.ownBlock = some x ∨ w.heap.size ≤ x := by
  by_cases h1 : m < 1
  · have e : m.toNat = 0 := by omega
    rw [e]
    have hown' : w.ownsRow base 45 3 v (ofE (d ++ List.replicate 0 k)).length ((ofE (d ++ List.replicate 0 k)).flatMap op3C) := by simpa using hown
    obtain ⟨a, cap, rfl, _, _, _⟩ := Sl.of_owns hown
    go_enter Try.func57, Try.ntmps57
    go_wp2
    go_ret
    exact ⟨_, rfl, hown', Fr.refl _ _, fun x hx => .inl hx⟩
  · obtain ⟨j, hj⟩ : ∃ j : Nat, m = ((j + 1 : Nat) : Int) := ⟨m.toNat - 1, by omega⟩
    subst hj
    have hR := RightE.of d
    refine (addN_calls base v (ofE d) _ k w hown (hR.small hd) (by have := ofE_len d; omega) hb (by omega)).mono ?_
    rw [addN_ofE, Int.toNat_natCast]
    exact fun e w' h => h
/-- no part -/
theorem cutE_no {l : List Op3} {f n : Int} (h : ¬ (right l = true ∧ 1 ≤ n ∧ 0 ≤ f ∧ n ≤ (flatE l).length ∧ f ≤ (flatE l).length - n)) : cutE l f n = [] := by unfold cutE; rw [if_neg h]
set_option maxRecDepth 100000 in
set_option maxHeartbeats 1600000 in
theorem sCut_yes (v : Value) (l : List Op3) (F M : Nat) (w : World) (hv : SlP w v l) (hr : right l = true) (h1 : 1 ≤ M) (h3 : M ≤ (flatE l).length) (h4 : F ≤ (flatE l).length - M) :
    Calls Try.prog 69 #[v, .int .i64 F, .int .i64 M] w fun e w' => ∃ v', e = .returned v' ∧ SlP w' v' (cutE l F M) ∧ Fr [] w w' ∧ ∀ k, v'.ownBlock = some k → w.heap.size ≤ k := by
  obtain ⟨hR, hle⟩ := right_ok hr
  have hend := hR.end
  have hsm := hR.small (by omega)
  have hll := hR.len
  have He : Hid (cutE l F M = ofE (((flatE l).take (F + M)).drop F)) := hidIt (by unfold cutE; rw [if_pos ⟨hr, by omega, by omega, by omega, by omega⟩, Int.toNat_natCast, Int.toNat_natCast, take_drop_eq])
  have Hx : ∀ k, k < l.length → Hid ((l.getD k z3).1 = ((flatE (l.take k)).length : Int) ∧ 1 ≤ (l.getD k z3).2.1 ∧ (flatE (l.take k)).length + (l.getD k z3).2.1 ≤ 65536) := fun k hk => hidIt (by
    have g1 := hR.2 k hk
    have g2 := flat_take_le l (k + 1)
    rw [flat_step hk, List.length_append, List.length_replicate] at g2
    omega)
  have Hst : ∀ k, k < l.length → Hid (((flatE (l.take (k + 1))).take (F + M)).drop F = ((flatE (l.take k)).take (F + M)).drop F ++ List.replicate (min (((flatE (l.take k)).length : Int) + (l.getD k z3).2.1) ((F : Int) + M) - max ((flatE (l.take k)).length : Int) F).toNat (l.getD k z3).2.2) := fun k hk => hidIt (by
    have g1 := (Hx k hk).out.2.1
    rw [flat_step hk, cut_step _ _ _ _ _ (by omega)]
    congr 3
    omega)
  have Hle : ∀ k, k ≤ l.length → Hid ((((flatE (l.take k)).take (F + M)).drop F).length ≤ 65536) := fun k hk => hidIt (by
    have g2 := flat_take_le l k
    simp
    omega)
  have H0 : ((flatE (l.take 0)).take (F + M)).drop F = [] := by simp [flatE]
  have Hd : Hid (((flatE (l.take l.length)).take (F + M)).drop F = ((flatE l).take (F + M)).drop F) := hidIt (by rw [List.take_length])
  generalize ((flatE l).take (F + M)).drop F = Z at *
  have keyE := fun w hv => send_calls v l w hv hsm
  rw [hend] at keyE
  have keyR := fun w hv => sRight_calls v l w hv
  rw [hr] at keyR
  have c1 : ¬ (M : Int) < 1 := by omega
  have c2 : ¬ (F : Int) < 0 := by omega
  have c3 : ¬ ((flatE l).length : Int) < (M : Int) := by omega
  have c4 : ¬ ((flatE l).length : Int) - (M : Int) < (F : Int) := by omega
  clear hend hR
  generalize (flatE l).length = T at *
  generalize hD : (fun k => ((flatE (l.take k)).take (F + M)).drop F) = D at *
  replace H0 : D 0 = [] := by rw [← hD]; exact H0
  replace Hd : Hid (D l.length = Z) := by rw [← hD]; exact Hd
  replace Hle : ∀ k, k ≤ l.length → Hid ((D k).length ≤ 65536) := by rw [← hD]; exact Hle
  generalize hA : (fun k => (flatE (l.take k)).length) = A at *
  replace Hst : ∀ k, k < l.length → Hid (D (k + 1) = D k ++ List.replicate (min ((A k : Int) + (l.getD k z3).2.1) ((F : Int) + M) - max (A k : Int) F).toNat (l.getD k z3).2.2) := by rw [← hD, ← hA]; exact Hst
  replace Hx : ∀ k, k < l.length → Hid ((l.getD k z3).1 = (A k : Int) ∧ 1 ≤ (l.getD k z3).2.1 ∧ A k + (l.getD k z3).2.1 ≤ 65536) := by rw [← hA]; exact Hx
  clear hD hA
  obtain ⟨a, cap, rfl, hlc, hcm, _⟩ := hv.open
  unfold maxLen at hcm
  go_enter Try.func69, Try.ntmps69
  go_wp2_with fail
  refine (keyR w hv).mono ?_
  rintro e w1 ⟨rfl, hf1⟩
  go_wp2_with fail
  refine (keyE w1 (SlF.fr0 hv hf1)).mono ?_
  rintro e w2 ⟨rfl, hf2⟩
  have hF2 := hf1.trans0 hf2
  go_wp2_with fail
  refine (keyE w2 (SlF.fr0 hv hF2)).mono ?_
  rintro e w3 ⟨rfl, hf3⟩
  have hF3 := hF2.trans0 hf3
  clear hf1 hf2 hf3 hF2 keyR keyE
  go_wp2_with fail
  rename_i hcnd _ _
  clear hcnd c1 c2 c3 c4
  have hsz3 := hF3.size
  go_loopw [7, 9, 10, 11, 39] (fun o _ _ _ i wr => ∃ k : Nat, k ≤ l.length ∧ i = .int .i64 k ∧ wr.ownsRow w.heap.size 45 3 o (ofE (D k)).length ((ofE (D k)).flatMap op3C) ∧ Fr [] w wr) (fun _ _ _ _ i _ => l.length - (intOf i).toNat)
  case atStart => exact ⟨0, Nat.zero_le _, rfl, by rw [H0]; exact World.ownsRow_nil _ _ _ _, hF3⟩
  case round =>
    clear hF3 hsz3
    obtain ⟨k, hk, rfl, hown, hF⟩ := hrel
    have hob := own_base hown
    have hsz := hF.size
    by_cases hlt : k < l.length
    · obtain ⟨b, off, rfl, hb, d0, d1, d2⟩ := SlP.at (hv.fr0 hF) hlt
      have hx := Hx k hlt
      have hs := Hst k hlt
      have hle' := Hle k hk
      generalize l.getD k z3 = x at *
      obtain ⟨p, q, r⟩ := x
      simp only at d0 d1 d2 hs hx
      obtain ⟨hx1, hx2, hx3⟩ := hx.out
      subst hx1
      clear Hx Hst Hle hx H0 Hd He
      generalize A k = P at *
      generalize D k = E at *
      have hw1 : IntKind.i64.wrap ((P : Int) + q) = (P : Int) + q := IntWalk.i64_in _ (by omega)
      have hw2 : IntKind.i64.wrap ((F : Int) + (M : Int)) = (F : Int) + (M : Int) := IntWalk.i64_in _ (by omega)
      go_wp2_with fail
      go_quiet (fail)
      generalize hlo : (if P < F then (F : Int) else (P : Int)) = lo at *
      generalize hhi : (if (F : Int) + (M : Int) < (P : Int) + q then (F : Int) + (M : Int) else (P : Int) + q) = hi at *
      have hs' : Hid (D (k + 1) = E ++ List.replicate (hi - lo).toNat r) := hidIt (by
        have e : min ((P : Int) + q) ((F : Int) + M) - max (P : Int) F = hi - lo := by rw [← hhi, ← hlo]; split <;> split <;> omega
        rw [hs.out, e])
      have hlo1 : 0 ≤ lo := by rw [← hlo]; split <;> omega
      have hhi1 : 0 ≤ hi ∧ hi ≤ 65536 := by rw [← hhi]; constructor <;> split <;> omega
      have hlo2 : lo ≤ 65536 := by rw [← hlo]; split <;> omega
      clear hs hlo hhi
      have hw3 : IntKind.i64.wrap (hi - lo) = hi - lo := IntWalk.i64_in _ (by omega)
      go_wp2_with fail
      refine (sadd_calls w.heap.size u7 E (hi - lo) r _ ((owns_drewN (hown.alloc _) _)) (by have := hle'.out; omega) (by omega) (by simp; omega)).mono ?_
      rintro e w4 ⟨v4, rfl, hown4, hf4, _⟩
      go_wp2
      go_roundw
      case rel => exact ⟨k + 1, by omega, by go_num, by rw [hs'.out]; exact hown4, ((hF.alloc _).drewN _).trans hf4 (fun x hx hl => by have := hob x (by simpa using hx); omega)⟩
      case measure => simp [intOf]; omega
    · have hke : k = l.length := by omega
      have Hz : Hid (ofE (D k) = cutE l F M) := hidIt (by rw [hke, Hd.out, He.out])
      have hsl : SlP wr u7 (ofE (D k)) := SlF.of_owns hown
      clear hown Hst Hx Hle H0 Hd He hke
      go_wp2
      go_ret
      exact ⟨u7, rfl, by rw [← Hz.out]; exact hsl, hF, hob⟩
set_option maxRecDepth 100000 in
set_option maxHeartbeats 1600000 in
theorem sCut_calls (v : Value) (l : List Op3) (f n : Int) (w : World) (hv : SlP w v l) : Calls Try.prog 69 #[v, .int .i64 f, .int .i64 n] w fun e w' => ∃ v', e = .returned v' ∧ SlP w' v' (cutE l f n) ∧ Fr [] w w' ∧ ∀ k, v'.ownBlock = some k → w.heap.size ≤ k := by
  by_cases hc : right l = true ∧ 1 ≤ n ∧ 0 ≤ f ∧ n ≤ (flatE l).length ∧ f ≤ (flatE l).length - n
  · obtain ⟨hr, h1, h2, h3, h4⟩ := hc
    obtain ⟨F, rfl⟩ := Int.eq_ofNat_of_zero_le h2
    obtain ⟨M, rfl⟩ := Int.eq_ofNat_of_zero_le (by omega : 0 ≤ n)
    exact sCut_yes v l F M w hv hr (by omega) (by omega) (by omega)
  · rw [cutE_no hc]
    have keyR := fun w hv => sRight_calls v l w hv
    by_cases hr : right l = true
    · obtain ⟨hR, hle⟩ := right_ok hr
      have hend := hR.end
      have hsm := hR.small (by omega)
      have keyE := fun w hv => send_calls v l w hv hsm
      rw [hend] at keyE
      rw [hr] at keyR
      have hc' : ¬ (1 ≤ n ∧ 0 ≤ f ∧ n ≤ (flatE l).length ∧ f ≤ (flatE l).length - n) := fun h => hc ⟨hr, h⟩
      clear hend hR hc hsm
      generalize (flatE l).length = T at *
      obtain ⟨a, cap, rfl, hlc, hcm, _⟩ := hv.open
      by_cases c1 : n < 1
      · clear hc' keyE
        go_enter Try.func69, Try.ntmps69
        go_wp2_with fail
        refine (keyR w hv).mono ?_
        rintro e w1 ⟨rfl, hf1⟩
        go_wp2
        go_ret
        exact ⟨_, rfl, Sl.nil _, hf1, fun _ h => by cases h⟩
      · by_cases c2 : f < 0
        · clear hc' keyE
          go_enter Try.func69, Try.ntmps69
          go_wp2_with fail
          refine (keyR w hv).mono ?_
          rintro e w1 ⟨rfl, hf1⟩
          go_wp2
          go_ret
          exact ⟨_, rfl, Sl.nil _, hf1, fun _ h => by cases h⟩
        · by_cases c3 : (T : Int) < n
          · clear hc'
            go_enter Try.func69, Try.ntmps69
            go_wp2_with fail
            refine (keyR w hv).mono ?_
            rintro e w1 ⟨rfl, hf1⟩
            go_wp2_with fail
            refine (keyE w1 (SlF.fr0 hv hf1)).mono ?_
            rintro e w2 ⟨rfl, hf2⟩
            go_wp2
            go_ret
            exact ⟨_, rfl, Sl.nil _, hf1.trans0 hf2, fun _ h => by cases h⟩
          · have c4 : (T : Int) - n < f := by omega
            have hw1 : IntKind.i64.wrap ((T : Int) - n) = (T : Int) - n := IntWalk.i64_in _ (by omega)
            clear hc'
            go_enter Try.func69, Try.ntmps69
            go_wp2_with fail
            refine (keyR w hv).mono ?_
            rintro e w1 ⟨rfl, hf1⟩
            go_wp2_with fail
            refine (keyE w1 (SlF.fr0 hv hf1)).mono ?_
            rintro e w2 ⟨rfl, hf2⟩
            have hF2 := hf1.trans0 hf2
            go_wp2_with fail
            refine (keyE w2 (SlF.fr0 hv hF2)).mono ?_
            rintro e w3 ⟨rfl, hf3⟩
            go_wp2
            go_ret
            exact ⟨_, rfl, Sl.nil _, hF2.trans0 hf3, fun _ h => by cases h⟩
    · have hr' : right l = false := by simpa using hr
      rw [hr'] at keyR
      obtain ⟨a, cap, rfl, hlc, hcm, _⟩ := hv.open
      go_enter Try.func69, Try.ntmps69
      go_wp2_with fail
      refine (keyR w hv).mono ?_
      rintro e w1 ⟨rfl, hf1⟩
      go_wp2
      go_ret
      exact ⟨_, rfl, Sl.nil _, hf1, fun _ h => by cases h⟩
set_option maxRecDepth 100000 in
set_option maxHeartbeats 1600000 in
theorem sNorm_calls (v : Value) (l : List Op3) (w : World) (hv : SlP w v l) : Calls Try.prog 66 #[v] w fun e w' => ∃ v', e = .returned v' ∧ SlP w' v' (ofE (kindsE l)) ∧ Fr [] w w' ∧ ∀ k, v'.ownBlock = some k → w.heap.size ≤ k := by
  have key := fun w hv => sCut_calls v l 0 (kindsE l).length w hv
  rw [norm_eq] at key
  obtain ⟨a, cap, rfl, hlc, hcm, _⟩ := hv.open
  go_enter Try.func66, Try.ntmps66
  go_wp2_with fail
  refine (sLong_calls _ l w hv).mono ?_
  rintro e w1 ⟨rfl, hf1⟩
  go_wp2_with fail
  refine (key w1 (SlF.fr0 hv hf1)).mono ?_
  rintro e w2 ⟨v2, rfl, hs2, hf2, hb2⟩
  have hsz := hf1.size
  go_wp2
  go_ret
  exact ⟨v2, rfl, hs2, hf1.trans0 hf2, fun k hk => Nat.le_trans hsz (hb2 k hk)⟩
end Go.Proofs.Ytfmolbgfhchdkaa
