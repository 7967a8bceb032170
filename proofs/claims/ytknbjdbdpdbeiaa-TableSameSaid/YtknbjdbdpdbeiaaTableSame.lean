/-
  law08.TableSame: the walk.
-/
import Derived.Test.YtknbjdbdpdbeiaaTableAll
import Derived.Test.YtknbjdbdpdbeiaaTabRaw
import Derived.Test.YtknbjdbdpdbeiaaTabCp
import Derived.Test.YtknbjdbdpdbeiaaOpenP
namespace Go.Proofs.Ytknbjdbdpdbeiaa
open Go.RowKit Go.Maps
attribute [local go_sem high] equalSlot0 equalSlotR0

/-- the slots from c on, Holes ahead of them -/
def fromL (l : List Slt) (c : Nat) : List Slt := List.replicate c zS ++ l.drop c
theorem fromL_all (l : List Slt) : fromL l 0 = l := by simp [fromL]
theorem fromL_length {l : List Slt} {c : Nat} (h : c ≤ l.length) : (fromL l c).length = l.length := by simp [fromL]; omega
theorem fromL_none (l : List Slt) : fromL l l.length = List.replicate l.length zS := by simp [fromL]
theorem fromL_set {l : List Slt} {c : Nat} (h : c < l.length) : (fromL l (c + 1)).set c (l.getD c zS) = fromL l c := by
  have hg : l[c] = l.getD c zS := by rw [List.getD_eq_getElem?_getD, List.getElem?_eq_getElem h]; rfl
  unfold fromL
  rw [List.replicate_succ', List.append_assoc, List.set_append_right _ _ (by simp), List.length_replicate, Nat.sub_self, List.drop_eq_getElem_cons h, hg]
  rfl
theorem fromL_tSet {l : List Slt} {c : Nat} (h : c < l.length) (hr : ∀ s ∈ l, rightS s = true) : (tSet (fromL l (c + 1)) (c : Int) (l.getD c zS)).1 = fromL l c := by
  unfold tSet
  rw [if_pos ⟨by omega, by rw [fromL_length (by omega)]; omega, right_getD hr c⟩]
  simp only [Int.toNat_natCast]
  exact fromL_set h
theorem resize_new {n : Nat} {l : List Slt} (hl : l.length ≤ 256) : (tResize (List.replicate n zS) (l.length : Int)).1 = fromL l l.length := by
  unfold tResize
  rw [if_pos ⟨by omega, by omega⟩, fromL_none]
  simp only [Int.toNat_natCast, List.take_replicate, List.length_replicate, List.replicate_append_replicate]
  congr 1
  omega
set_option maxRecDepth 100000 in
set_option maxHeartbeats 1600000 in
theorem TableSame_no (n : Int) (vs vm : Value) (os ms : List Opr) (w : World) (hs : SlO w vs os) (hm : SlO w vm ms) (hn : (okSize n && !decide ((200 : Int) < wrap64 ((os.length : Int) + (ms.length : Int)))) = false) :
    Calls Try.prog 8 #[.int .i64 n, vs, vm] w fun e w' => e = .returned (.bool true) ∧ Fr [] w w' := by
  obtain ⟨a, cap, rfl, _, _, _⟩ := hs.open
  obtain ⟨a', cap', rfl, _, _, _⟩ := hm.open
  cases hok : okSize n with
  | false =>
    clear hn
    go_enter Try.func8, Try.ntmps8
    go_wp2_with fail
    refine (New_no _ _ hok).mono ?_
    rintro e w1 ⟨rfl, rfl⟩
    go_wp2_with fail
    refine (New_no _ _ hok).mono ?_
    rintro e w1 ⟨rfl, rfl⟩
    go_wp2_with fail
    refine (alive_calls _).mono ?_
    rintro e w2 ⟨rfl, hf⟩
    go_wp2
    go_ret
    exact ⟨rfl, hf⟩
  | true =>
    have hlen : (200 : Int) < wrap64 ((os.length : Int) + (ms.length : Int)) := by rw [hok] at hn; simpa using hn
    clear hn
    go_enter Try.func8, Try.ntmps8
    go_wp2_with fail
    refine (New_yes _ _ hok).mono ?_
    rintro e w1 ⟨tb, mb, rfl, ht, hm, hT, hf1⟩
    go_wp2_with fail
    refine (New_yes _ _ hok).mono ?_
    rintro e w2 ⟨ub, nb, rfl, hu, hn, hU, hf2⟩
    go_wp2_with fail
    refine (alive_calls _).mono ?_
    rintro e w3 ⟨rfl, hf⟩
    go_wp2
    go_ret
    exact ⟨rfl, (hf1.trans0 hf2).trans0 hf⟩
set_option maxRecDepth 100000 in
set_option maxHeartbeats 6400000 in
theorem TableSame_yes (n : Nat) (vs vm : Value) (os ms : List Opr) (w : World) (hn : n ≤ 256) (hs : SlO w vs os) (hm : SlO w vm ms) (hlen : ¬ (200 : Int) < wrap64 ((os.length : Int) + (ms.length : Int))) :
    Calls Try.prog 8 #[.int .i64 (n : Int), vs, vm] w fun e w' => e = .returned (.bool true) ∧ Fr [] w w' := by
  obtain ⟨a, cap, rfl, hlc, hcm, _⟩ := hs.open
  obtain ⟨a', cap', rfl, hlc', hcm', _⟩ := hm.open
  unfold maxLen at hcm hcm'
  have hok : okSize (n : Int) = true := by simp [okSize]; omega
  go_enter Try.func8, Try.ntmps8
  go_wp2_with fail
  refine (New_yes _ _ hok).mono ?_
  rintro e w1 ⟨tb, mb, rfl, ht, hmb, hT, hf1⟩
  go_wp2_with fail
  refine (New_yes _ _ hok).mono ?_
  rintro e w2 ⟨ub, nb, rfl, hu, hnb, hU, hf2⟩
  have lT := hT.lt
  have z1 := hf1.size
  replace hT : TabW w2 tb mb (List.replicate n zS) := hT.fr0 hf2
  replace hU : TabW w2 ub nb (List.replicate n zS) := hU
  have hF := hf1.trans0 hf2
  have z2 := hf2.size
  have lU := hU.lt
  clear hf1 hf2
  go_wp2_with fail
  clear hlen
  go_loopw [58] (fun i wr => ∃ k : Nat, k ≤ os.length ∧ i = .int .i64 k ∧ TabW wr tb mb (tRun (List.replicate n zS) (os.take k)) ∧ TabW wr ub nb (List.replicate n zS) ∧ Fr [] w wr) (fun i _ => os.length - (intOf i).toNat)
  case atStart => exact ⟨0, Nat.zero_le _, rfl, hT, hU, hF⟩
  case round =>
    clear hT hF hU
    obtain ⟨k, hk, rfl, hT, hU, hF⟩ := hrel
    by_cases hlt : k < os.length
    · obtain ⟨b, off, rfl, hb, c0, c1, c2, c3, c4⟩ := SlO.at (hs.fr0 hF) hlt
      have Hst := hidIt (tRun_succ (l := List.replicate n zS) hlt)
      generalize tRun (List.replicate n zS) (os.take k) = l at *
      generalize os.getD k zO = o at *
      obtain ⟨q', c', k', h', o'⟩ := o
      simp only at c0 c1 c2 c3 c4
      go_wp2_with fail
      refine (does_calls tb mb l q' c' k' h' o' _ (hT.fr0 ((Fr.refl _ _).alloc _))).mono ?_
      rintro e w4 ⟨u3, rfl, hs3, hT4, hf⟩
      have hfg := ((Fr.refl [] wr).alloc (.cells #[.int .i64 q', .int .i64 c', .int .i64 k', .int .i64 h', .bool o'] 34))
      replace hU := (hU.fr0 hfg).fr hf (by simp; omega) (by simp; omega)
      replace hF := (hF.trans0 hfg).trans hf (fun x hx hl => by simp at hx; omega)
      go_wp2
      go_roundw
      case rel => exact ⟨k + 1, by omega, by go_num, by rw [Hst.out]; exact hT4, hU, hF⟩
      case measure => simp [intOf]; omega
    · have hge : os.length ≤ k := by omega
      generalize tRun (List.replicate n zS) (os.take k) = l at *
      clear hlt
      have lT := hT.lt
      have lU := hU.lt
      have hl256 := hT.len
      have hright := hT.right
      go_wp2_with fail
      refine (all_calls tb mb l _ hT).mono ?_
      rintro e w3 ⟨vw, rfl, hown3, hf3⟩
      have hs3 : SlS w3 vw l := SlF.of_owns hown3
      go_wp2_with fail
      refine (tCopy_calls tb mb l _ (hT.fr0 hf3)).mono ?_
      rintro e w4 ⟨db, eb, rfl, hdb, heb, hD, hf4⟩
      have z3 := hf3.size
      have z4 := hF.size
      have hs4 := SlF.fr0 hs3 hf4
      have hf34 := hf3.trans0 hf4
      have hT4 := hT.fr0 hf34
      have hU4 := hU.fr0 hf34
      have hF4 := hF.trans0 hf34
      clear hT hU hF hown3 hf3 hf4 hf34 hs3
      go_wp2_with fail
      go_loopw [74] (fun i w2 => ∃ j : Nat, j ≤ ms.length ∧ i = .int .i64 j ∧ TabW w2 db eb (tRun l (ms.take j)) ∧ TabW w2 tb mb l ∧ TabW w2 ub nb (List.replicate n zS) ∧ SlS w2 vw l ∧ Fr [] w w2) (fun i _ => ms.length - (intOf i).toNat)
      case atStart => exact ⟨0, Nat.zero_le _, rfl, hD, hT4, hU4, hs4, hF4⟩
      case round =>
        clear hD hT4 hU4 hs4 hF4
        obtain ⟨j, hj, rfl, hD, hT, hU, hsw, hF⟩ := hrel
        by_cases hlt : j < ms.length
        · obtain ⟨b, off, rfl, hb, c0, c1, c2, c3, c4⟩ := SlO.at (hm.fr0 hF) hlt
          have Hst := hidIt (tRun_succ (l := l) hlt)
          generalize tRun l (ms.take j) = l2 at *
          generalize ms.getD j zO = o at *
          obtain ⟨q', c', k', h', o'⟩ := o
          simp only at c0 c1 c2 c3 c4
          have hfg := ((Fr.refl [] wr).alloc (.cells #[.int .i64 q', .int .i64 c', .int .i64 k', .int .i64 h', .bool o'] 34))
          have hDg := hD.fr0 hfg
          go_wp2_with fail
          refine (does_calls db eb l2 q' c' k' h' o' _ hDg).mono ?_
          rintro e w4 ⟨u3, rfl, hs3, hD4, hf⟩
          replace hU := (hU.fr0 hfg).fr hf (by simp; omega) (by simp; omega)
          replace hT := (hT.fr0 hfg).fr hf (by simp; omega) (by simp; omega)
          replace hsw := SlS.frT (SlF.fr0 hsw hfg) hDg hf
          replace hF := (hF.trans0 hfg).trans hf (fun x hx hl => by simp at hx; omega)
          go_wp2
          go_roundw
          case rel => exact ⟨j + 1, by omega, by go_num, by rw [Hst.out]; exact hD4, hT, hU, hsw, hF⟩
          case measure => simp [intOf]; omega
        · have hge : ms.length ≤ j := by omega
          clear hlt hD
          go_wp2_with fail
          refine (Len_calls tb mb l _ hT).mono ?_
          rintro e w5 ⟨rfl, rfl⟩
          go_wp2_with fail
          have key := Resize_calls ub nb (List.replicate n zS) (l.length : Int) wr hU
          unfold ResizePost at key
          rw [resize_new hl256] at key
          generalize (tResize (List.replicate n zS) (l.length : Int)).2 = rr at key
          refine key.mono ?_
          rintro e w5 ⟨vg, rfl, _, hU5, hf5⟩
          have hT5 := hT.fr hf5 (by simp; omega) (by simp; omega)
          have hs5 := hsw.frT hU hf5
          have hF5 := hF.trans hf5 (fun x hx hl => by simp at hx; omega)
          clear key hT hU hsw hF hf5
          go_wp2_with fail
          refine (Len_calls tb mb l _ hT5).mono ?_
          rintro e w6 ⟨rfl, rfl⟩
          go_wp2_with fail
          go_loopw [17] (fun i w2 => ∃ c : Nat, c ≤ l.length ∧ i = .int .i64 ((c : Int) - 1) ∧ TabW w2 ub nb (fromL l c) ∧ TabW w2 tb mb l ∧ SlS w2 vw l ∧ Fr [] w w2) (fun i _ => (intOf i + 1).toNat)
          case atStart => exact ⟨l.length, Nat.le_refl _, by go_num, hU5, hT5, hs5, hF5⟩
          case round =>
            clear hU5 hT5 hs5 hF5
            obtain ⟨c, hc, rfl, hU, hT, hsw, hF⟩ := hrel
            by_cases hc0 : 0 < c
            · obtain ⟨d, rfl⟩ : ∃ d, c = d + 1 := ⟨c - 1, by omega⟩
              have e0 := hidIt (show ((d + 1 : Nat) : Int) - 1 = (d : Int) by omega)
              rw [e0.out]
              have hd0 : (0 : Int) ≤ (d : Int) := by omega
              have kG := Get_calls tb mb l (d : Int) _ hT
              rw [tget_nat] at kG
              have kS := fun X (h : TabW X ub nb (fromL l (d + 1))) => Set_calls ub nb (fromL l (d + 1)) (d : Int) (l.getD d zS).1 (l.getD d zS).2.1 (l.getD d zS).2.2 X h
              unfold SetPost at kS
              have Hset : Hid ((tSet (fromL l (d + 1)) (d : Int) (l.getD d zS)).1 = fromL l d) := hidIt (fromL_tSet (by omega) hright)
              change ∀ X, TabW X ub nb (fromL l (d + 1)) → Calls _ _ _ X (fun e w' => e = .returned (.tuple #[slotV (tSet (fromL l (d + 1)) (d : Int) (l.getD d zS)).2.1, .int .i64 (tSet (fromL l (d + 1)) (d : Int) (l.getD d zS)).2.2]) ∧ TabW w' ub nb (tSet (fromL l (d + 1)) (d : Int) (l.getD d zS)).1 ∧ Fr [nb] X w') at kS
              rw [Hset.out] at kS
              generalize (tSet (fromL l (d + 1)) (d : Int) (l.getD d zS)).2 = rr at *
              generalize l.getD d zS = s at *
              go_wp2_with fail
              refine kG.mono ?_
              rintro e w7 ⟨rfl, hf7⟩
              go_wp2_with fail
              refine (kS _ (hU.fr0 hf7)).mono ?_
              rintro e w8 ⟨rfl, hU8, hf8⟩
              have hTe := hU8.lt
              replace hT := (hT.fr0 hf7).fr hf8 (by simp; omega) (by simp; omega)
              replace hsw := SlS.frT (SlF.fr0 hsw hf7) (hU.fr0 hf7) (hf8.mono (fun x hx _ => by simp at hx; simp [hx]))
              replace hF := (hF.trans0 hf7).trans hf8 (fun x hx hl => by simp at hx; omega)
              clear kG kS
              go_wp2
              go_roundw
              case rel => exact ⟨d, by omega, by go_num, hU8, hT, hsw, hF⟩
              case measure => simp [intOf]
            · have hc0 : c = 0 := by omega
              subst hc0
              rw [fromL_all] at hU
              have hneg : ((0 : Nat) : Int) - 1 = -1 := by omega
              have hFd : Fr [] wr wr.drew := (Fr.refl _ _).drew
              have hTd := hT.fr0 hFd
              have hUd := hU.fr0 hFd
              have hsd : SlS wr.drew vw l := SlF.fr0 hsw hFd
              have hFe := hF.trans0 hFd
              go_wp2_with fail
              refine wp_region_G (Fr [] wr.drew) [(false, 0), (true, 1), (true, 2), (true, 4), (false, 3), (false, 5), (true, 6), (true, 7), (true, 8), (true, 11), (false, 9), (true, 10), (false, 12), (true, 13), (true, 14), (true, 15), (true, 16)] follows (by as_aux_lemma => kernel_rfl) (Fr.refl _ _) ?_
              simp only [inOrder, List.map_cons, List.map_nil, List.getD_cons_zero, List.getD_cons_succ]
              refine wpG_one fun K hK => ?_
              go_simp
              refine (alive_calls _).mono ?_
              rintro e w5 ⟨rfl, hf5⟩
              refine hK _ _ (hf5) ?_
              clear hK K
              iterate 3
                refine wpG_pure fun K hK => ?_
                go_simp
                refine hK _ ?_
                clear hK K
              refine wpG_one fun K hK => ?_
              go_simp
              refine (all_calls tb mb l _ (hTd.fr0 hf5)).mono ?_
              rintro e w6 ⟨v6, rfl, ho6, hf6⟩
              have hf56 := hf5.trans0 hf6
              refine hK _ _ (hf56) ?_
              clear hK K
              refine wpG_one fun K hK => ?_
              go_simp
              refine (Same_calls v6 vw l _ (SlF.of_owns ho6) (SlF.fr0 hsd hf56)).mono ?_
              rintro e w7 ⟨rfl, hf7⟩
              have hf57 := hf56.trans0 hf7
              refine hK _ _ (hf57) ?_
              clear hK K
              iterate 4
                refine wpG_pure fun K hK => ?_
                go_simp
                refine hK _ ?_
                clear hK K
              refine wpG_oneS fun K hK => ?_
              go_simp
              refine (tEncode_calls ub nb l.length (keptL l) (grp l) _ (hUd.fr0 hf57).raw).mono ?_
              rintro e w8 ⟨v8, rfl, ho8, hf8⟩
              have hf58 := hf57.trans0 hf8
              have hy8 : SlY w8 v8 (encR l.length (keptL l) (grp l)) := SlF.of_owns ho8
              refine hK (Fr [] w8) (fun X hX => hf58.trans0 hX) _ _ (Fr.refl _ _) ?_
              clear hK K
              refine wpG_val (strL (encR l.length (keptL l) (grp l))) (by first | rfl | go_simp) (fun X hX => by have cc := conv_str (SlF.fr0 hy8 hX); go_simp) ?_
              simp only [Act.put, List.setIfInBounds_toArray, List.set_cons_zero, List.set_cons_succ]
              refine wpG_oneS fun K hK => ?_
              go_simp
              refine (tEncode_calls tb mb l.length (keptL l) (grp l) _ (hTd.fr0 hf58).raw).mono ?_
              rintro e w9 ⟨v9, rfl, ho9, hf9⟩
              have hy9 : SlY w9 v9 (encR l.length (keptL l) (grp l)) := SlF.of_owns ho9
              refine hK (Fr [] w9) (fun X hX => hf9.trans0 hX) _ _ (Fr.refl _ _) ?_
              clear hK K
              refine wpG_val (strL (encR l.length (keptL l) (grp l))) (by first | rfl | go_simp) (fun X hX => by have cc := conv_str (SlF.fr0 hy9 hX); go_simp) ?_
              simp only [Act.put, List.setIfInBounds_toArray, List.set_cons_zero, List.set_cons_succ]
              unfold strL
              iterate 3
                refine wpG_pure fun K hK => ?_
                go_simp
                refine hK _ ?_
                clear hK K
              refine wpG_end ?_
              go_wp2
              go_ret
              exact ⟨rfl, (hFe.trans0 hf58).trans0 hf9⟩
theorem TableSame_any (w : World) (n : Int) (_ : wfI n) (vs : Value) (os : List Opr) (hs : SlO w vs os) (_ : ∀ x ∈ os, wfO x) (vm : Value) (ms : List Opr) (hm : SlO w vm ms) (_ : ∀ x ∈ ms, wfO x) :
    Calls Try.prog 8 #[.int .i64 n, vs, vm] w fun e w' => e = .returned (.bool true) ∧ Fr [] w w' := by
  cases h : okSize n && !decide ((200 : Int) < wrap64 ((os.length : Int) + (ms.length : Int))) with
  | false => exact TableSame_no n vs vm os ms w hs hm h
  | true =>
    simp only [Bool.and_eq_true, Bool.not_eq_true', decide_eq_false_iff_not] at h
    obtain ⟨k, rfl⟩ : ∃ k : Nat, n = (k : Int) := ⟨n.toNat, by have := h.1; simp [okSize] at this; omega⟩
    exact TableSame_yes k vs vm os ms w (by have := h.1; simp [okSize] at this; omega) hs hm h.2
end Go.Proofs.Ytknbjdbdpdbeiaa
