/-
  TableCuts: the walk.
-/
import Derived.Test.YtknbjdbdpdbeiaaTableAll
import Derived.Test.YtknbjdbdpdbeiaaOpen
import Derived.Test.YtknbjdbdpdbeiaaCut
import Derived.Deep.QuietTactic
import Derived.BigQuiet
import Derived.Test.YtknbjdbdpdbeiaaDrawn
namespace Go.Proofs.Ytknbjdbdpdbeiaa
open Go.RowKit Go.Maps
attribute [local go_sem high] equalSlot0 equalSlotR0

theorem cutFromR (a : Option Addr) (n cap l : Nat) (w : World) (h : l ≤ n) :
    (Instr.sliceAt 27 (.slice a n cap) (some (.int .i64 (l : Int))) none none).run Try.prog w = .ok (.slice (slAddr a cap l 3) (n - l) (cap - l)) w := cut_from _ 32 3 Try.underlying27 (by kernel_rfl) a n cap l h
theorem cutToR (a : Option Addr) (n cap l : Nat) (w : World) (h : l ≤ cap) :
    (Instr.sliceAt 27 (.slice a n cap) none (some (.int .i64 (l : Int))) none).run Try.prog w = .ok (.slice a l cap) w := cut_to _ 32 3 Try.underlying27 (by kernel_rfl) a n cap l h
attribute [local go_sem high] cutFromR cutToR
/-- how many are counted so far -/
def cnt (D : List Slt) (k : Nat) : Nat := ((D.take k).filter fun s => s.1 != 0).length
theorem cnt_succ {D : List Slt} {k : Nat} (h : k < D.length) : cnt D (k + 1) = cnt D k + if (D.getD k zS).1 ≠ 0 then 1 else 0 := by
  have hg : D[k] = D.getD k zS := by rw [List.getD_eq_getElem?_getD, List.getElem?_eq_getElem h]; rfl
  unfold cnt
  rw [List.take_succ_eq_append_getElem h, hg, List.filter_append]
  clear hg
  generalize D.getD k zS = s
  by_cases h0 : s.1 = 0 <;> simp [h0]
theorem cnt_at {D : List Slt} {k : Nat} (h : k < D.length) (h0 : (D.getD k zS).1 ≠ 0) :
    cnt D k < (D.filter fun s => s.1 != 0).length ∧ (D.filter fun s => s.1 != 0).getD (cnt D k) zS = D.getD k zS := by
  have hg : D[k] = D.getD k zS := by rw [List.getD_eq_getElem?_getD, List.getElem?_eq_getElem h]; rfl
  have hD : D = D.take k ++ D.getD k zS :: D.drop (k + 1) := by
    rw [← hg, ← List.drop_eq_getElem_cons h, List.take_append_drop]
  have hf : (D.filter fun s => s.1 != 0) = ((D.take k).filter fun s => s.1 != 0) ++ D.getD k zS :: ((D.drop (k + 1)).filter fun s => s.1 != 0) := by
    conv => lhs; rw [hD, List.filter_append, List.filter_cons]
    clear hD hg
    generalize D.getD k zS = s at *
    simp [h0]
  unfold cnt
  rw [hf]
  clear hf hD hg
  generalize D.getD k zS = s at *
  simp
theorem cnt_end (D : List Slt) : cnt D D.length = (D.filter fun s => s.1 != 0).length := by simp [cnt]
set_option maxRecDepth 100000 in
set_option maxHeartbeats 800000 in
theorem TableCuts_no (n : Int) (vs : Value) (to : Int) (w : World) (hn : okSize n = false) : Calls Try.prog 5 #[.int .i64 n, vs, .int .i64 to] w fun e w' => e = .returned (.bool true) ∧ Fr [] w w' := by
  go_enter Try.func5, Try.ntmps5
  go_wp2_with (first | (go_at_call 10; refine (New_no _ _ hn).mono ?_; rintro e w' ⟨rfl, rfl⟩) | (go_at_call 12; refine (alive_calls _).mono ?_; rintro e w1 ⟨rfl, hf⟩))
  go_ret
  exact ⟨rfl, hf⟩
set_option maxRecDepth 100000 in
set_option maxHeartbeats 3200000 in
theorem TableCuts_yes (n : Nat) (vs : Value) (os : List Opr) (to : Int) (w : World) (hn : n ≤ 256) (hs : SlO w vs os) :
    Calls Try.prog 5 #[.int .i64 (n : Int), vs, .int .i64 to] w fun e w' => e = .returned (.bool true) ∧ Fr [] w w' := by
  have hok : okSize (n : Int) = true := by simp [okSize]; omega
  obtain ⟨a, cap, rfl, hlc, hcm, _⟩ := hs.open
  unfold maxLen at hcm
  by_cases h100 : 100 < os.length
  · go_enter Try.func5, Try.ntmps5
    go_wp2_with (first | (go_at_call 10; refine (New_yes _ _ hok).mono ?_; rintro e w1 ⟨tb, mb, rfl, ht, hm, hT, hF⟩) | (go_at_call 12; refine (alive_calls _).mono ?_; rintro e w3 ⟨rfl, hf3⟩))
    go_ret
    exact ⟨rfl, hF.trans0 hf3⟩
  · have h100' : os.length ≤ 100 := by omega
    clear h100
    go_enter Try.func5, Try.ntmps5
    go_wp2_with fail
    refine (New_yes _ _ hok).mono ?_
    rintro e w1 ⟨tb, mb, rfl, ht, hm, hT, hF⟩
    go_wp2_with fail
    replace hT : TabW w1 tb mb (List.replicate n zS) := hT
    go_loopw [37] (fun i wr => ∃ k : Nat, k ≤ os.length ∧ i = .int .i64 k ∧ TabW wr tb mb (tRun (List.replicate n zS) (os.take k)) ∧ Fr [] w wr) (fun i _ => os.length - (intOf i).toNat)
    case atStart => exact ⟨0, Nat.zero_le _, rfl, hT, hF⟩
    case round =>
      clear hT hF
      obtain ⟨k, hk, rfl, hT, hF⟩ := hrel
      by_cases hlt : k < os.length
      · obtain ⟨b, off, rfl, hb, c0, c1, c2, c3, c4⟩ := SlO.at (hs.fr0 hF) hlt
        have Hst := hidIt (tRun_succ (l := List.replicate n zS) hlt)
        generalize tRun (List.replicate n zS) (os.take k) = l at *
        generalize os.getD k zO = o at *
        obtain ⟨q', c', k', h', o'⟩ := o
        simp only at c0 c1 c2 c3 c4
        go_wp2_with fail
        refine (does_calls tb mb l q' c' k' h' o' _ (hT.fr0 ((Fr.refl _ _).alloc _))).mono ?_
        rintro e w4 ⟨u3, rfl, hs3, hT4, hf⟩
        replace hF := (hF.alloc (.cells #[.int .i64 q', .int .i64 c', .int .i64 k', .int .i64 h', .bool o'] 34)).trans hf (fun x hx hl => by simp at hx; omega)
        go_wp2
        go_roundw
        case rel => exact ⟨k + 1, by omega, by go_num, by rw [Hst.out]; exact hT4, hF⟩
        case measure => simp [intOf]; omega
      · have hge : os.length ≤ k := by omega
        generalize tRun (List.replicate n zS) (os.take k) = l at *
        have hlen := hT.len
        go_wp2_with fail
        refine (all_calls tb mb l _ hT).mono ?_
        rintro e w2 ⟨u1, rfl, hown1, hf⟩
        have hs1 : SlS w2 u1 l := SlF.of_owns hown1
        clear hown1
        replace hT := hT.fr0 hf
        replace hF := hF.trans0 hf
        clear hf
        obtain ⟨a1, cap1, rfl, hlc1, hcm1, _⟩ := hs1.open
        unfold maxLen at hcm1
        by_cases hto : 0 ≤ to ∧ to ≤ 256
        · obtain ⟨m, rfl⟩ := Int.eq_ofNat_of_zero_le hto.1
          have Hre : Hid (tResize l (m : Int) = (l.take m ++ List.replicate (m - l.length) zS, (l.drop m).filter (fun s => s.1 != 0), 0)) := hidIt (by unfold tResize; rw [if_pos hto]; rfl)
          have hm256 : m ≤ 256 := by omega
          clear hto
          go_wp2_with fail
          refine (Resize_calls tb mb l m _ hT).mono ?_
          rw [Hre.out]
          rintro e w3 ⟨u2, rfl, hown2, hT3, hf⟩
          simp only at hown2 hT3
          replace hs1 := hs1.frT hT hf
          replace hF := hF.trans hf (fun x hx hl => by simp at hx; omega)
          have hs2 : SlS w3 u2 ((l.drop m).filter (fun s => s.1 != 0)) := SlF.of_owns hown2
          clear hown2 hf hT
          obtain ⟨a2, cap2, rfl, hlc2, hcm2, _⟩ := hs2.open
          unfold maxLen at hcm2
          by_cases hml : l.length < m
          · have hnil : l.drop m = [] := List.drop_eq_nil_of_le (by omega)
            rw [hnil] at hs2
            simp only [hnil, List.filter_nil, List.length_nil] at *
            go_wp2_with fail
            refine (alive_calls _).mono ?_
            rintro e w4 ⟨rfl, hf⟩
            replace hF := hF.trans0 hf
            go_wp2
            go_ret
            exact ⟨rfl, hF⟩
          · have hml' : m ≤ l.length := by omega
            clear hml
            have hdl : (l.drop m).length = l.length - m := by simp
            have hsD := SlF.from 3 (fun _ => rfl) hs1 hml'
            have hrep : m - l.length = 0 := by omega
            rw [hrep, List.replicate_zero, List.append_nil] at hT3
            generalize hD : l.drop m = D at *
            go_wp2_with fail
            rw [← hdl] at hsD ⊢
            generalize slAddr a1 cap1 m 3 = a3 at *
            generalize decide (l.length < m) = dd
            have hDle : D.length ≤ 256 := by omega
            have Hdl := hidIt hdl
            clear hdl
            go_loopw [14, 75] (fun nn i wr => ∃ k : Nat, k ≤ D.length ∧ nn = .int .i64 (cnt D k : Nat) ∧ i = .int .i64 k ∧ Fr [] w3 wr) (fun _ i _ => D.length - (intOf i).toNat)
            case atStart => exact ⟨0, Nat.zero_le _, by simp [cnt], rfl, Fr.refl _ _⟩
            case round =>
              obtain ⟨k, hk, rfl, rfl, hF3⟩ := hrel
              by_cases hlt : k < D.length
              · obtain ⟨b, off, rfl, hb, c0, c1, c2⟩ := SlS.at (hsD.fr0 hF3) hlt
                have Hst := hidIt (cnt_succ hlt)
                by_cases h0 : (D.getD k zS).1 = 0
                · rw [if_neg (by simpa using h0)] at Hst
                  generalize D.getD k zS = s at *
                  obtain ⟨s0, s1, s2⟩ := s
                  simp only at h0 c0 c1 c2
                  subst h0
                  go_wp2
                  go_roundw
                  case rel => exact ⟨k + 1, by omega, by rw [Hst.out]; rfl, by go_num, hF3.alloc _⟩
                  case measure => simp [intOf]; omega
                · rw [if_pos (by simpa using h0)] at Hst
                  obtain ⟨hc1, hc2⟩ := cnt_at hlt h0
                  obtain ⟨b2, off2, hae2, hb2, d0, d1, d2⟩ := SlS.at (hs2.fr0 hF3) hc1
                  subst hae2
                  rw [hc2] at d0 d1 d2
                  have hss := sEq_self (D.getD k zS)
                  generalize D.getD k zS = s at *
                  generalize hC : cnt D k = C at *
                  have hC0 : (0 : Int) ≤ C := by omega
                  have hC1 : (C : Int) < (List.filter (fun s => s.1 != 0) D).length := by omega
                  go_wp2_with fail
                  go_quiet (fail)
                  go_wp2
                  go_roundw
                  case rel => exact ⟨k + 1, by omega, by rw [Hst.out]; go_num, by go_num, (hF3.alloc _).drewN _⟩
                  case measure => simp [intOf]; omega
              · have hkD : k = D.length := by omega
                subst hkD
                rw [cnt_end]
                have hF4 := hF.trans0 hF3
                replace hs1 := hs1.fr0 hF3
                replace hs2 := hs2.fr0 hF3
                replace hT3 := hT3.fr0 hF3
                have hlt3 : (l.take m).length = m := by simp; omega
                have Hre2 : Hid (tResize (l.take m) (l.length : Int) = (l.take m ++ List.replicate (l.length - m) zS, ([] : List Slt), 0)) := hidIt (by
                  unfold tResize
                  rw [if_pos ⟨by omega, by omega⟩, Int.toNat_natCast, hlt3, List.take_of_length_le (by omega), List.drop_eq_nil_of_le (by omega)]
                  rfl)
                clear hF3 hF
                go_wp2_with fail
                refine (Resize_calls tb mb (l.take m) l.length _ hT3).mono ?_
                rw [Hre2.out]
                rintro e w5 ⟨u4, rfl, _, hT5, hf⟩
                simp only at hT5
                replace hs1 := SlS.frT hs1 hT3 hf
                replace hs2 := SlS.frT hs2 hT3 hf
                replace hF := hF4.trans hf (fun x hx hl => by simp at hx; omega)
                clear hf hT3 hF4
                go_wp2_with fail
                refine (all_calls tb mb _ _ hT5).mono ?_
                rintro e w6 ⟨u5, rfl, hown5, hf⟩
                have hs5 : SlS w6 u5 (l.take m ++ List.replicate (l.length - m) zS) := SlF.of_owns hown5
                replace hs1 := hs1.fr0 hf
                replace hs2 := hs2.fr0 hf
                replace hF := hF.trans0 hf
                clear hown5 hf hT5
                have hlen5 : (l.take m ++ List.replicate (l.length - m) zS).length = l.length := by simp; omega
                obtain ⟨a5, cap5, rfl, hlc5, hcm5, _⟩ := hs5.open
                rw [hlen5] at *
                unfold maxLen at hcm5
                have hA : ∀ x, Fr [] w6 x → Calls Try.prog 12 #[] x (fun e x' => e = .returned (.bool true) ∧ Fr [] w6 x') := fun x hx => (alive_calls x).mono fun e x' h => ⟨h.1, hx.trans0 h.2⟩
                have hB : ∀ x, Fr [] w6 x → Calls Try.prog 15 #[.slice a5 m cap5, .slice a1 m cap1] x (fun e x' => e = .returned (.bool true) ∧ Fr [] w6 x') := fun x hx => by
                  have h5 := SlF.to 3 (fun _ => rfl) (hs5.fr0 hx) hml'
                  rw [List.take_left' hlt3] at h5
                  exact (Same_calls _ _ _ x h5 (SlF.to 3 (fun _ => rfl) (hs1.fr0 hx) hml')).mono fun e x' h => ⟨h.1, hx.trans0 h.2⟩
                have hC : ∀ x v, Fr [] w6 x → SlS x v (List.replicate (l.length - m) zS) → Calls Try.prog 15 #[.slice (slAddr a5 cap5 m 3) (l.length - m) (cap5 - m), v] x (fun e x' => e = .returned (.bool true) ∧ Fr [] w6 x') := fun x v hx hv => by
                  have h5 := SlF.from 3 (fun _ => rfl) (hs5.fr0 hx) hml'
                  rw [List.drop_left' hlt3] at h5
                  exact (Same_calls _ _ _ x h5 hv).mono fun e x' h => ⟨h.1, hx.trans0 h.2⟩
                have hmc5 : m ≤ cap5 := by omega
                have hmc1 : m ≤ cap1 := by omega
                have hsub : (l.length : Int) - (m : Int) = ((l.length - m : Nat) : Int) := by omega
                have hwr : IntKind.i64.wrap ((l.length - m : Nat) : Int) = ((l.length - m : Nat) : Int) := IntWalk.i64_in _ (by omega)
                go_wp2_with fail
                refine wp_region_T [false, true, true, true, true, true, true, true, true, true, true, true, true, true, false, true, true, true, true, true, true, true, true, true, false, false, true, true] follows (by as_aux_lemma => kernel_rfl) ?_
                simp only [List.zip_cons_cons, List.zip_nil_right]
                refine wpT_one fun K hK => ?_
                go_simp
                refine (hA _ ((Fr.refl _ _).drew)).mono ?_
                rintro e x1 ⟨rfl, hq1⟩
                refine hK _ _ ?_
                clear hK K
                iterate 13
                  refine wpT_pure fun K hK => ?_
                  go_simp
                  refine hK _ ?_
                  clear hK K
                refine wpT_one fun K hK => ?_
                go_simp
                refine (hB _ hq1).mono ?_
                rintro e x2 ⟨rfl, hq2⟩
                refine hK _ _ ?_
                clear hK K
                iterate 9
                  refine wpT_pure fun K hK => ?_
                  go_simp
                  refine hK _ ?_
                  clear hK K
                obtain ⟨i0, hi0, hz0, hz1, hz2⟩ := info_parts infoSlotR
                obtain ⟨w9, hrun, hown9, hg9⟩ := run_make_full (P := Try.prog) x2 x2.heap.size 27 32 i0 _ 3 Try.underlying27 hi0 hz0 hz1 .i64 .i64 (l.length - m) (by rw [hz2]; omega) (by unfold maxLen; omega) (Nat.le_refl _)
                refine wpT_make rfl _ _ 27 rfl .i64 .i64 _ _ rfl rfl (l.length - m) (by omega) (by omega) hrun ?_
                have hq9 : Fr [] w6 w9 := hq2.grown hg9 (fun x hx => by cases hx)
                have hs9 : SlS w9 (.slice (some ⟨x2.heap.size, 0, none⟩) (l.length - m) (l.length - m)) (List.replicate (l.length - m) zS) := by
                  replace hown9 : w9.ownsRow _ _ _ _ _ (madeCells #[.int .i64 0, .int .i64 0, .bool false] ((l.length - m) * 3)).toList := hown9
                  rw [made_slots] at hown9
                  have hll : (List.replicate (l.length - m) zS).length = l.length - m := by simp
                  refine SlF.of_owns (base := x2.heap.size) (e := 32) (size := 3) ?_
                  rw [hll]
                  exact hown9
                refine wpT_one fun K hK => ?_
                go_simp
                refine (hC _ _ hq9 hs9).mono ?_
                rintro e x3 ⟨rfl, hq3⟩
                refine hK _ _ ?_
                clear hK K
                iterate 2
                  refine wpT_pure fun K hK => ?_
                  go_simp
                  refine hK _ ?_
                  clear hK K
                refine wpT_end ?_
                go_wp2
                go_ret
                exact ⟨rfl, hF.trans0 hq3⟩
        · have Hre : Hid (tResize l to = (l, [], 1)) := hidIt (by unfold tResize; rw [if_neg hto])
          go_wp2_with fail
          refine (Resize_calls tb mb l to _ hT).mono ?_
          rw [Hre.out]
          rintro e w3 ⟨u2, rfl, hown2, hT3, hf⟩
          replace hF := hF.trans hf (fun x hx hl => by simp at hx; omega)
          go_wp2_with fail
          refine (alive_calls _).mono ?_
          rintro e w4 ⟨rfl, hf⟩
          replace hF := hF.trans0 hf
          go_wp2
          go_ret
          exact ⟨rfl, hF⟩
end Go.Proofs.Ytknbjdbdpdbeiaa
namespace Go.Proofs.Ytknbjdbdpdbeiaa
open Go.RowKit
theorem TableCuts_any (w : World) (n : Int) (_ : wfI n) (vs : Value) (os : List Opr) (hs : SlO w vs os) (_ : ∀ x ∈ os, wfO x) (to : Int) (_ : wfI to) :
    Calls Try.prog 5 #[.int .i64 n, vs, .int .i64 to] w fun e w' => e = .returned (.bool true) ∧ Fr [] w w' := by
  by_cases hok : okSize n = true
  · obtain ⟨k, rfl⟩ : ∃ k : Nat, n = (k : Int) := ⟨n.toNat, by simp [okSize] at hok; omega⟩
    exact TableCuts_yes k vs os to w (by simp [okSize] at hok; omega) hs
  · exact TableCuts_no n vs to w (by simpa using hok)
end Go.Proofs.Ytknbjdbdpdbeiaa
