/-
  span.Over.
-/
import Derived.Test.YtkammkbjkojfmaaSpOL
import Derived.Test.YtkammkbjkojfmaaSpW2
namespace Go.Proofs.Ytkammkbjkojfmaa
open Go.RowKit Go.Maps
attribute [local go_sem] Oper.semAt_some

theorem endsE_len (l m : List Op3) : (sortI (endsE (l ++ m))).length = l.length + m.length := by unfold sortI endsE; simp
set_option maxRecDepth 100000 in
set_option maxHeartbeats 3200000 in
theorem sOver_yes (v u : Value) (l m : List Op3) (w : World) (hv : SlP w v l) (hu : SlP w u m) (hok : okV v) (hok2 : okV u) (hr : right l = true) (hr2 : right m = true) :
    Calls Try.prog 18 #[v, u] w fun e w' => ∃ v', e = .returned v' ∧ w'.ownsRow w.heap.size 38 3 v' (overE l m).length ((overE l m).flatMap op3C) ∧ Fr [] w w' := by
  obtain ⟨hR, hle⟩ := right_ok hr
  obtain ⟨hR2, hle2⟩ := right_ok hr2
  have hll := hR.len
  have hml := hR2.len
  have Hlast : Hid (ofE (overN (flatE l) (flatE m) (prevC (cutsE l m) (cutsE l m).length).toNat) = overE l m) := hidIt (by
    rw [over_last hr hr2, Int.toNat_natCast]
    unfold overE overD
    rw [if_pos ⟨hr, hr2⟩])
  have Hpos : ∀ x ∈ cutsE l m, 0 ≤ x ∧ x ≤ 65536 := fun x hx => by
    rcases (cuts_mem l m x).1 hx with h | h
    · have := end_le hr h; omega
    · have := end_le hr2 h; omega
  have Hprev : ∀ k, k ≤ (cutsE l m).length → 0 ≤ prevC (cutsE l m) k ∧ prevC (cutsE l m) k ≤ 65536 := fun k hk => by
    unfold prevC
    split
    · omega
    · exact Hpos _ (List.mem_of_getElem? (getD_some 0 (by omega)))
  have Hpiece : ∀ k, k < (cutsE l m).length → Hid (prevC (cutsE l m) k < (cutsE l m).getD k 0 ∧ (cutsE l m).getD k 0 ≤ 65536 ∧ prevC (cutsE l m) (k + 1) = (cutsE l m).getD k 0 ∧
      overN (flatE l) (flatE m) ((cutsE l m).getD k 0).toNat = overN (flatE l) (flatE m) (prevC (cutsE l m) k).toNat ++ List.replicate ((cutsE l m).getD k 0 - prevC (cutsE l m) k).toNat (if atK l (prevC (cutsE l m) k) = 0 then atK m (prevC (cutsE l m) k) else atK l (prevC (cutsE l m) k))) := fun k hk => hidIt (by
    have h1 := Hprev k (by omega)
    have h2 := Hpos _ (List.mem_of_getElem? (getD_some 0 hk))
    obtain ⟨f, hf⟩ := Int.eq_ofNat_of_zero_le h1.1
    obtain ⟨t, ht⟩ := Int.eq_ofNat_of_zero_le h2.1
    obtain ⟨g1, g2⟩ := over_piece hr hr2 hk hf ht
    rw [hf, ht, Int.toNat_natCast, Int.toNat_natCast, g2, atK_getD hr, atK_getD hr2, ← overK_eq, show ((t : Int) - (f : Int)).toNat = t - f by omega]
    exact ⟨by omega, by omega, by unfold prevC; rw [if_neg (by omega)]; exact ht, rfl⟩)
  have hsl := hR.small (by omega)
  have hsm := hR2.small (by omega)
  have hcl : (cutsE l m).length ≤ 1000000 := by
    unfold cutsE Lib.compact Lib.compactUpTo
    rw [List.length_map]
    refine Nat.le_trans (List.length_filter_le _ _) ?_
    rw [List.length_range, endsE_len]
    omega
  have keyB := fun w hv hu => bounds_calls v u l m w hv hu hok hok2 hsl hsm (by omega) (by omega)
  have keyS : ∀ bx base ve w, Blk w bx [ve] 27 → w.ownsRow base 3 1 ve (sortI (endsE (l ++ m))).length ((sortI (endsE (l ++ m))).flatMap intC) → Seq Try.prog 43 #[.pointer (some ⟨bx, 0, none⟩)] ve.ownBlock.toList (fun x => ve.ownBlock = some x) (cutsE l m).length
      (fun k _ args => args = #[.int .i64 (prevC (cutsE l m) k), .int .i64 ((cutsE l m).getD k 0 - prevC (cutsE l m) k)]) w :=
    fun bx base ve w h1 h2 => bounds_seq bx base ve (sortI (endsE (l ++ m))) w h1 h2 (by rw [endsE_len]; omega) (fun x hx => by have := Hpos x hx; omega) hcl
  have keyA := fun n w hv => sAt_calls v l n w hv
  have keyA2 := fun n w hu => sAt_calls u m n w hu
  have k1 := fun w hv => sRight_calls v l w hv
  have k2 := fun w hu => sRight_calls u m w hu
  rw [hr] at k1
  rw [hr2] at k2
  have hov : ∀ n, (overN (flatE l) (flatE m) n).length = n := overN_len _ _
  have Hn0 : overN (flatE l) (flatE m) 0 = [] := rfl
  have hP0 : prevC (cutsE l m) 0 = 0 := rfl
  generalize overE l m = RES at *
  generalize sortI (endsE (l ++ m)) = Z at *
  generalize prevC (cutsE l m) = P at *
  generalize cutsE l m = C at *
  generalize overN (flatE l) (flatE m) = D at *
  generalize atK l = KA at *
  generalize atK m = KB at *
  generalize atB l = BA at *
  generalize atB m = BB at *
  clear hR hR2 hle hle2 hsl hsm Hpos
  obtain ⟨a, cap, rfl, _, _, _⟩ := hv.open
  obtain ⟨a', cap', rfl, _, _, _⟩ := hu.open
  refine calls_marks Try.func18 rfl ?_
  simp only [Try.ntmps18, List.size_toArray, List.length_cons, List.length_nil, Nat.reduceAdd, Nat.reduceSub, Array.replicate_succ, Array.replicate_zero, List.push_toArray, List.append_toArray, List.nil_append, List.cons_append]
  go_wp2_with fail
  have B2 := (Blk.new w [.slice a l.length cap] 22).alloc (.cells #[.slice a' m.length cap'] 22)
  have B3 := Blk.new' (w := w.alloc (.cells #[.slice a l.length cap] 22)) (n := w.heap.size + 1) (by simp) [.slice a' m.length cap'] 22
  have hF0 := ((Fr.refl [] w).alloc (.cells #[.slice a l.length cap] 22)).alloc (.cells #[.slice a' m.length cap'] 22)
  refine (k1 _ (SlF.fr0 hv hF0)).mono ?_
  rintro e w1 ⟨rfl, hf1⟩
  replace B2 := B2.fr0 hf1
  replace B3 := B3.fr0 hf1
  have hF1 := hF0.trans0 hf1
  have b3 := B3.cell
  clear hF0 hf1
  go_wp2_with fail
  refine (k2 _ (SlF.fr0 hu hF1)).mono ?_
  rintro e w2 ⟨rfl, hf2⟩
  replace B2 := B2.fr0 hf2
  replace B3 := B3.fr0 hf2
  have hF2 := hF1.trans0 hf2
  have hz2 := hF2.size
  have l3 := B3.lt
  clear b3 hF1 hf2 k1 k2
  have hFa := (Fr.refl [] w2).alloc (.cells #[.slice none 0 0] 22)
  have B5 := Blk.new w2 [.slice none 0 0] 22
  replace B2 := B2.fr0 hFa
  replace B3 := B3.fr0 hFa
  have hF2a := hF2.trans0 hFa
  have b2 := B2.cell
  have b3 := B3.cell
  clear hFa
  go_wp2_with fail
  refine (keyB _ (SlF.fr0 hv hF2a) (SlF.fr0 hu hF2a)).mono ?_
  rintro e w3 ⟨bx, ve, rfl, hbx, hown, hf3, hbx1, hbx2⟩
  replace B2 := B2.fr0 hf3
  replace B3 := B3.fr0 hf3
  replace B5 := B5.fr0 hf3
  have hF3 := hF2a.trans0 hf3
  have hz3 := hf3.size
  have hob := own_base hown
  have hlt3 := hown.lt
  simp only [World.size_alloc] at hbx1 hob hz3
  have hseq := keyS _ _ _ _ hbx hown
  have l5 := B5.lt
  clear keyB keyS b2 b3 hf3 hF2a hbx hown hF2
  have heg : ∀ args w, (callFunc 43 args).run Try.prog w = .ok (.enter 43 args) w := enters_of Try.func43 (by kernel_rfl) rfl
  go_wp2_with fail
  refine wp_rangeFunc_seq rfl heg hseq (Fr.refl _ _) (fun k f A => ∃ v, f = w2.heap.size :: v.ownBlock.toList ∧ Blk A w2.heap.size [v] 22 ∧ A.ownsRow w3.heap.size 38 3 v (ofE (D (P k).toNat)).length ((ofE (D (P k).toNat)).flatMap op3C) ∧
    Blk A w.heap.size [.slice a l.length cap] 22 ∧ Blk A (w.heap.size + 1) [.slice a' m.length cap'] 22 ∧ Fr [] w A) (fun _ _ _ => False) [w2.heap.size] ?st (fun _ _ _ _ _ h _ _ => h) (fun x hx => (hlt3 x (Option.mem_toList.1 hx)).2)
    (fun x hx => by have := List.mem_singleton.1 hx; subst this; exact ⟨l5, fun h => by have := hob _ h; omega⟩) ⟨.slice none 0 0, rfl, B5, by rw [hP0]; show w3.ownsRow _ _ _ _ (ofE (D 0)).length ((ofE (D 0)).flatMap op3C); rw [Hn0]; exact World.ownsRow_nil _ _ _ _, B2, B3, hF3⟩ ?round ?done (fun _ _ _ _ _ _ h _ => h.elim)
  case st =>
    rintro k f A B M' ⟨v, rfl, h5, ho, h2, h3, hf⟩ hF hM
    have nm : ∀ x, x < w2.heap.size + 1 → x ∉ ve.ownBlock.toList := fun x hx hm => by have := hob _ (Option.mem_toList.1 hm); omega
    refine ⟨v, rfl, stab_blk h5 hF hM l5 (nm _ (by omega)), stab_own ho hF hM (fun x hx => ⟨List.mem_cons_of_mem _ (Option.mem_toList.2 hx), fun hm => ?_⟩), stab_blk h2 hF hM (by omega) (nm _ (by omega)), stab_blk h3 hF hM (by omega) (nm _ (by omega)), stab_fr hf hF hM (by omega) (fun x hx => by have := hob _ (Option.mem_toList.1 hx); omega)⟩
    have h1 := (hlt3 x (Option.mem_toList.1 hm)).2
    have h2 := own_base ho x hx
    omega
  case round =>
    rintro lp k f A args h1 h2 h3 h4 hk ⟨v, hfe, h5, ho, hb2, hb3, hf⟩ rfl
    refine ⟨rfl, ?_⟩
    have hp := Hpiece k hk
    have hp1 := (Hprev k (by omega))
    clear Hpiece Hprev Hlast hseq heg hlt3 Hn0 hP0
    generalize C.getD k 0 = t at *
    generalize hPk : P k = p at *
    gi_wp2
    refine ⟨⟨v, hfe, h5, ho, hb2, hb3, hf⟩, Fr.refl _ _, ?_⟩
    clear h5 ho hb2 hb3 hf hfe v
    rintro A2 ⟨v, rfl, h5, ho, hb2, hb3, hf⟩ hF2 hsz2
    have hA2 : w3.heap.size ≤ A2.heap.size := by omega
    clear hsz2 hF2
    have hob' := own_base ho
    have c5 := h5.cell
    have c2 := hb2.cell
    have c3 := hb3.cell
    generalize hN : (ofE (D p.toNat)).length = N at *
    obtain ⟨av, cv, rfl, _, _, _⟩ := Sl.of_owns ho
    have hwr : IntKind.i64.wrap (t - p) = t - p := IntWalk.i64_in _ (by have := hp.out; omega)
    gi_wp2_with fail
    refine ⟨trivial, rfl, (CallsIn.inRound lp (callsIn_wide.2 (keyA p _ (SlF.fr0 hv hf)))).mono ?_⟩
    rintro e w4 ⟨rfl, hf4⟩
    have c5a := (h5.fr0 hf4).cell
    have c3a := (hb3.fr0 hf4).cell
    have hfa := hf.trans0 hf4
    have hoa := owns_fr ho hf4 (by simp)
    have qa := hf4.size
    by_cases hk0 : KA p = 0
    · have hp' := hp.out
      rw [if_pos hk0] at hp'
      replace hp := hidIt hp'
      clear hp'
      generalize KA p = ka at *
      subst hk0
      gi_wp2_with fail
      refine ⟨trivial, rfl, (CallsIn.inRound lp (callsIn_wide.2 (keyA2 p _ (SlF.fr0 hu hfa)))).mono ?_⟩
      rintro e w5 ⟨rfl, hf5⟩
      have c5b := ((h5.fr0 hf4).fr0 hf5).cell
      have hob5 := owns_fr hoa hf5 (by simp)
      have qb := hf5.size
      generalize KB p = kb at *
      gi_wp2_with fail
      refine ⟨trivial, rfl, (CallsIn.inRound lp (callsIn_wide.2 (sadd_calls w3.heap.size _ (D p.toNat) (t - p) (kb) _ (by rw [hN]; exact hob5) (by rw [hov]; omega) (by have := hp.out; omega) (by omega)))).mono ?_⟩
      rintro e w6 ⟨v6, rfl, hown6, hf6, hloc6⟩
      have hob6 := own_base hown6
      have hlt6 := hown6.lt
      obtain ⟨a6, c6, rfl, _, _, _⟩ := Sl.of_owns hown6
      have q6 := hf6.size
      have hFA : Fr (Value.slice av N cv).ownBlock.toList A2 w6 := (hf4.trans0 hf5).weak.trans hf6 (fun x hx _ => hx)
      have nb : ∀ x, x < w3.heap.size → x ∉ (Value.slice av N cv).ownBlock.toList := fun x hx hm => by have := hob' _ (Option.mem_toList.1 hm); omega
      have h5' := h5.fr hFA (nb _ l5)
      have hb2' := hb2.fr hFA (nb _ (by omega))
      have hb3' := hb3.fr hFA (nb _ (by omega))
      have hf' : Fr [] w w6 := hf.trans hFA (fun x hx hl => by have := hob' _ (Option.mem_toList.1 hx); omega)
      have c5' := h5'.cell
      have f5' := h5'.frozen
      have l5' := h5'.lt
      have hsA := hFA.size
      gi_wp2
      refine ⟨_, ⟨_, rfl, h5'.setCell 0 _, owns_setCell (by rw [hp.out.2.2.1, hp.out.2.2.2]; exact hown6) (by show w2.heap.size < w3.heap.size; omega) _, hb2'.other (by simp; omega) _, hb3'.other (by simp; omega) _, hf'.setCell (.inr (by simp; omega)) _⟩, Fr.setCell (p := ⟨w2.heap.size, 0, none⟩) (hFA.mono (fun x hx _ => List.mem_cons_of_mem _ hx)) (.inl List.mem_cons_self) _, fun x hx => ?_⟩
      simp only [World.size_setCell]
      rcases List.mem_cons.1 hx with rfl | hx
      · exact ⟨by omega, .inl List.mem_cons_self⟩
      · have hx' := Option.mem_toList.1 hx
        refine ⟨(hlt6 x hx').2, ?_⟩
        rcases hloc6 x hx' with h | h
        · exact .inl (List.mem_cons_of_mem _ (Option.mem_toList.2 h))
        · exact .inr (by omega)
    · have hkb : ((KA p : Int) == 0) = false := by simpa using hk0
      have hp' := hp.out
      rw [if_neg hk0] at hp'
      replace hp := hidIt hp'
      clear hp'
      generalize KA p = ka at *
      gi_wp2_with fail
      refine ⟨trivial, rfl, (CallsIn.inRound lp (callsIn_wide.2 (sadd_calls w3.heap.size _ (D p.toNat) (t - p) (ka) _ (by rw [hN]; exact hoa) (by rw [hov]; omega) (by have := hp.out; omega) (by omega)))).mono ?_⟩
      rintro e w6 ⟨v6, rfl, hown6, hf6, hloc6⟩
      have hob6 := own_base hown6
      have hlt6 := hown6.lt
      obtain ⟨a6, c6, rfl, _, _, _⟩ := Sl.of_owns hown6
      have q6 := hf6.size
      have hFA : Fr (Value.slice av N cv).ownBlock.toList A2 w6 := hf4.weak.trans hf6 (fun x hx _ => hx)
      have nb : ∀ x, x < w3.heap.size → x ∉ (Value.slice av N cv).ownBlock.toList := fun x hx hm => by have := hob' _ (Option.mem_toList.1 hm); omega
      have h5' := h5.fr hFA (nb _ l5)
      have hb2' := hb2.fr hFA (nb _ (by omega))
      have hb3' := hb3.fr hFA (nb _ (by omega))
      have hf' : Fr [] w w6 := hf.trans hFA (fun x hx hl => by have := hob' _ (Option.mem_toList.1 hx); omega)
      have c5' := h5'.cell
      have f5' := h5'.frozen
      have l5' := h5'.lt
      have hsA := hFA.size
      gi_wp2
      refine ⟨_, ⟨_, rfl, h5'.setCell 0 _, owns_setCell (by rw [hp.out.2.2.1, hp.out.2.2.2]; exact hown6) (by show w2.heap.size < w3.heap.size; omega) _, hb2'.other (by simp; omega) _, hb3'.other (by simp; omega) _, hf'.setCell (.inr (by simp; omega)) _⟩, Fr.setCell (p := ⟨w2.heap.size, 0, none⟩) (hFA.mono (fun x hx _ => List.mem_cons_of_mem _ hx)) (.inl List.mem_cons_self) _, fun x hx => ?_⟩
      simp only [World.size_setCell]
      rcases List.mem_cons.1 hx with rfl | hx
      · exact ⟨by omega, .inl List.mem_cons_self⟩
      · have hx' := Option.mem_toList.1 hx
        refine ⟨(hlt6 x hx').2, ?_⟩
        rcases hloc6 x hx' with h | h
        · exact .inl (List.mem_cons_of_mem _ (Option.mem_toList.2 h))
        · exact .inr (by omega)
  case done =>
    rintro De f W h1 h2 ⟨v, rfl, h5, ho, hb2, hb3, hf⟩ hK
    have c5 := h5.cell
    have e0 : D (P C.length).toNat = D (P C.length).toNat := rfl
    rw [Hlast.out] at ho
    have hob' := own_base ho
    obtain ⟨av, cv, rfl, _, _, _⟩ := Sl.of_owns ho
    clear Hpiece Hprev hseq heg Hn0 hP0
    go_wp2
    refine leave_mark rfl hK (fun W' _ => results_tmp rfl _ _ _) fun W' hF => ⟨_, rfl, owns_base (owns_fr ho hF (fun x hx hm => h2 (by have := List.mem_singleton.1 hm; subst this; exact List.mem_cons_of_mem _ (Option.mem_toList.2 hx)))) (by omega), hf.trans1 hF (by omega)⟩
set_option maxRecDepth 100000 in
set_option maxHeartbeats 1600000 in
theorem sOver_calls (v u : Value) (l m : List Op3) (w : World) (hv : SlP w v l) (hu : SlP w u m) (hok : okV v) (hok2 : okV u) :
    Calls Try.prog 18 #[v, u] w fun e w' => ∃ v', e = .returned v' ∧ w'.ownsRow w.heap.size 38 3 v' (overE l m).length ((overE l m).flatMap op3C) ∧ Fr [] w w' := by
  have k1 := fun w hv => sRight_calls v l w hv
  have k2 := fun w hu => sRight_calls u m w hu
  by_cases hr : right l = true
  · by_cases hr2 : right m = true
    · exact sOver_yes v u l m w hv hu hok hok2 hr hr2
    · have hr2' : right m = false := by simpa using hr2
      have He : Hid (overE l m = []) := hidIt (by unfold overE; rw [if_neg (fun h => hr2 h.2)])
      rw [hr] at k1
      rw [hr2'] at k2
      generalize overE l m = RES at *
      obtain ⟨a, cap, rfl, _, _, _⟩ := hv.open
      obtain ⟨a', cap', rfl, _, _, _⟩ := hu.open
      have B3 := Blk.new' (w := w.alloc (.cells #[.slice a l.length cap] 22)) (n := w.heap.size + 1) (by simp) [.slice a' m.length cap'] 22
      have hF0 := ((Fr.refl [] w).alloc (.cells #[.slice a l.length cap] 22)).alloc (.cells #[.slice a' m.length cap'] 22)
      refine calls_marks Try.func18 rfl ?_
      simp only [Try.ntmps18, List.size_toArray, List.length_cons, List.length_nil, Nat.reduceAdd, Nat.reduceSub, Array.replicate_succ, Array.replicate_zero, List.push_toArray, List.append_toArray, List.nil_append, List.cons_append]
      go_wp2_with fail
      refine (k1 _ (SlF.fr0 hv hF0)).mono ?_
      rintro e w1 ⟨rfl, hf1⟩
      replace B3 := B3.fr0 hf1
      have hF1 := hF0.trans0 hf1
      have b3 := B3.cell
      go_wp2_with fail
      refine (k2 _ (SlF.fr0 hu hF1)).mono ?_
      rintro e w2 ⟨rfl, hf2⟩
      go_wp2
      exact leave_plain rfl (results_tmp rfl _ _ _) ⟨_, rfl, by rw [He.out]; exact World.ownsRow_nil _ _ _ _, hF1.trans0 hf2⟩
  · have hr' : right l = false := by simpa using hr
    have He : Hid (overE l m = []) := hidIt (by unfold overE; rw [if_neg (fun h => hr h.1)])
    rw [hr'] at k1
    generalize overE l m = RES at *
    obtain ⟨a, cap, rfl, _, _, _⟩ := hv.open
    obtain ⟨a', cap', rfl, _, _, _⟩ := hu.open
    have hF0 := ((Fr.refl [] w).alloc (.cells #[.slice a l.length cap] 22)).alloc (.cells #[.slice a' m.length cap'] 22)
    refine calls_marks Try.func18 rfl ?_
    simp only [Try.ntmps18, List.size_toArray, List.length_cons, List.length_nil, Nat.reduceAdd, Nat.reduceSub, Array.replicate_succ, Array.replicate_zero, List.push_toArray, List.append_toArray, List.nil_append, List.cons_append]
    go_wp2_with fail
    refine (k1 _ (SlF.fr0 hv hF0)).mono ?_
    rintro e w1 ⟨rfl, hf1⟩
    go_wp2
    exact leave_plain rfl (results_tmp rfl _ _ _) ⟨_, rfl, by rw [He.out]; exact World.ownsRow_nil _ _ _ _, hF0.trans0 hf1⟩

end Go.Proofs.Ytkammkbjkojfmaa
