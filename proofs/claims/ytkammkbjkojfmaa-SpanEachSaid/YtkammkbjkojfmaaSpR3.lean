/-
  The reference of layer 9: Over; ref07.Same.
-/
import Derived.Test.YtkammkbjkojfmaaSpR2
namespace Go.Proofs.Ytkammkbjkojfmaa
open Go.RowKit Go.Maps

def overK (a b : List Int) (k : Nat) : Int := if k < a.length ∧ a.getD k 0 ≠ 0 then a.getD k 0 else b.getD k 0
def overN (a b : List Int) (n : Nat) : List Int := (List.range n).map (overK a b)
def overD (a b : List Int) : List Int := overN a b (max a.length b.length)
def overE (a b : List Op3) : List Op3 := if right a = true ∧ right b = true then ofE (overD (flatE a) (flatE b)) else []
theorem overN_succ (a b : List Int) (n : Nat) : overN a b (n + 1) = overN a b n ++ [overK a b n] := by
  unfold overN
  rw [List.range_succ, List.map_append]
  rfl
theorem overN_len (a b : List Int) (n : Nat) : (overN a b n).length = n := by simp [overN]
theorem getD_out (b : List Int) {k : Nat} (h : b.length ≤ k) : b.getD k 0 = 0 := by rw [List.getD_eq_getElem?_getD, List.getElem?_eq_none h]; rfl
set_option maxRecDepth 100000 in
set_option maxHeartbeats 3200000 in
theorem rOver_calls (v u : Value) (l m : List Op3) (w : World) (hv : SlP w v l) (hu : SlP w u m) (hl : (kindsE l).length ≤ 4096) (hm : (kindsE m).length ≤ 4096) :
    Calls Try.prog 19 #[v, u] w fun e w' => ∃ v', e = .returned v' ∧ SlP w' v' (overE l m) ∧ Fr [] w w' := by
  have keyR := fun v l w hv => rRight_calls v l w hv
  obtain ⟨a, cap, rfl, _, _, _⟩ := hv.open
  obtain ⟨a', cap', rfl, _, _, _⟩ := hu.open
  by_cases hr : right l = true
  · by_cases hr2 : right m = true
    · have He : Hid (overE l m = ofE (overN (kindsE l) (kindsE m) (max (kindsE l).length (kindsE m).length))) := hidIt (by unfold overE; rw [if_pos ⟨hr, hr2⟩, kindsE_right hr, kindsE_right hr2]; rfl)
      have keyK := fun v l w hv => rKinds_calls v l w hv
      have k1 := fun w hv => keyK (.slice a l.length cap) l w hv
      have k2 := fun w hv => keyK (.slice a' m.length cap') m w hv
      have r1 := fun w hv => keyR (.slice a l.length cap) l w hv
      have r2 := fun w hv => keyR (.slice a' m.length cap') m w hv
      rw [hr] at r1
      rw [hr2] at r2
      generalize kindsE l = A at *
      generalize kindsE m = B at *
      clear keyK keyR
      go_enter Try.func19, Try.ntmps19
      go_wp2_with fail
      refine (r1 w hv).mono ?_
      rintro e w1 ⟨rfl, hf1⟩
      go_wp2_with fail
      refine (r2 w1 (SlF.fr0 hu hf1)).mono ?_
      rintro e w2 ⟨rfl, hf2⟩
      have hF2 := hf1.trans0 hf2
      go_wp2_with fail
      refine (k1 w2 (SlF.fr0 hv hF2)).mono ?_
      rintro e w3 ⟨v3, rfl, hs3, hf3, _⟩
      have hF3 := hF2.trans0 hf3
      go_wp2_with fail
      refine (k2 w3 (SlF.fr0 hu hF3)).mono ?_
      rintro e w4 ⟨v4, rfl, hs4, hf4, _⟩
      have hF4 := hF3.trans0 hf4
      have hs3' := SlF.fr0 hs3 hf4
      obtain ⟨a3, c3, rfl, _, hcm3, _⟩ := hs3'.open
      obtain ⟨a4, c4, rfl, _, hcm4, _⟩ := hs4.open
      unfold maxLen at hcm3 hcm4
      clear k1 k2 r1 r2 hf1 hf2 hf3 hf4 hF2 hF3 hs3
      go_wp2_with fail
      go_loopw [7, 8, 9] (fun o i _ wr => ∃ k : Nat, k ≤ max A.length B.length ∧ i = .int .i64 k ∧ wr.ownsRow w4.heap.size 3 1 o k ((overN A B k).flatMap intC) ∧ Fr [] w4 wr) (fun _ i _ _ => max A.length B.length - (intOf i).toNat)
      case atStart => exact ⟨0, Nat.zero_le _, rfl, World.ownsRow_nil _ _ _ _, Fr.refl _ _⟩
      case round =>
        obtain ⟨k, hk, rfl, hown, hF⟩ := hrel
        have hob := own_base hown
        have hsz := hF.size
        have hsA := SlF.fr0 hs3' hF
        have hsB := SlF.fr0 hs4 hF
        obtain ⟨av, cv, rfl, _, _, _⟩ := Sl.of_owns hown
        have fin : ∀ (x : Int) (W : World), overK A B k = x → ∀ (v' : Value) (w3 : World), w3.ownsRow w4.heap.size 3 1 v' (k + 1) ((overN A B k).flatMap intC ++ [.int .i64 x]) → w3.ownsRow w4.heap.size 3 1 v' (k + 1) ((overN A B (k + 1)).flatMap intC) := fun x W hx v' w3 h => by
          rw [overN_succ, hx]; simpa using h
        by_cases hA : k < A.length
        · obtain ⟨b, off, rfl, hb, cA⟩ := SlI.at hsA hA
          by_cases hB : k < B.length
          · obtain ⟨b', off', rfl, hb', cB⟩ := SlI.at hsB hB
            by_cases hz : A.getD k 0 = 0
            · have hx : overK A B k = B.getD k 0 := by unfold overK; rw [if_neg (fun h => h.2 hz)]
              have hfin := fun v' w3 h => hidIt (fin _ wr hx v' w3 h)
              clear fin hx He
              rw [hz] at cA
              generalize A.getD k 0 = x at *
              generalize B.getD k 0 = y at *
              go_wp2_with (at_builtin; refine Hid.out ?_)
              refine hidIt ?_
              refine wpList_append1 27 3 (.int .i64 0) 1 8 Try.underlying27 infoInt rfl (by decide) (by decide) rfl _ _ rfl w4.heap.size (.slice av k cv) k ((overN A B k).flatMap intC) rfl (hown.alloc _) (intC y) rfl int_one wr.heap.size rfl (Blk.new _ _ _) (by omega) (by simp; omega) ?_
              intro v' w3 hown3 hgrow hloc
              go_wp2
              go_roundw
              case rel => exact ⟨k + 1, by omega, by go_num, (hfin _ _ hown3).out, (hF.alloc _).grown hgrow (fun x hx => .inr (hob x hx))⟩
              case measure => simp [intOf]; omega
            · have hx : overK A B k = A.getD k 0 := by unfold overK; rw [if_pos ⟨hA, hz⟩]
              have hfin := fun v' w3 h => hidIt (fin _ wr hx v' w3 h)
              have hbz : ((A.getD k 0 : Int) == 0) = false := by simpa using hz
              clear fin hx He
              generalize A.getD k 0 = x at *
              generalize B.getD k 0 = y at *
              go_wp2_with (at_builtin; refine Hid.out ?_)
              refine hidIt ?_
              refine wpList_append1 27 3 (.int .i64 0) 1 8 Try.underlying27 infoInt rfl (by decide) (by decide) rfl _ _ rfl w4.heap.size (.slice av k cv) k ((overN A B k).flatMap intC) rfl (hown.alloc _) (intC x) rfl int_one wr.heap.size rfl (Blk.new _ _ _) (by omega) (by simp; omega) ?_
              intro v' w3 hown3 hgrow hloc
              go_wp2
              go_roundw
              case rel => exact ⟨k + 1, by omega, by go_num, (hfin _ _ hown3).out, (hF.alloc _).grown hgrow (fun x hx => .inr (hob x hx))⟩
              case measure => simp [intOf]; omega
          · have hB0 := getD_out B (Nat.le_of_not_lt hB)
            by_cases hz : A.getD k 0 = 0
            · have hx : overK A B k = 0 := by unfold overK; rw [if_neg (fun h => h.2 hz), hB0]
              have hfin := fun v' w3 h => hidIt (fin _ wr hx v' w3 h)
              clear fin hx He hB0
              rw [hz] at cA
              generalize A.getD k 0 = x at *
              go_wp2_with (at_builtin; refine Hid.out ?_)
              refine hidIt ?_
              refine wpList_append1 27 3 (.int .i64 0) 1 8 Try.underlying27 infoInt rfl (by decide) (by decide) rfl _ _ rfl w4.heap.size (.slice av k cv) k ((overN A B k).flatMap intC) rfl (hown.alloc _) (intC 0) rfl int_one wr.heap.size rfl (Blk.new _ _ _) (by omega) (by simp; omega) ?_
              intro v' w3 hown3 hgrow hloc
              go_wp2
              go_roundw
              case rel => exact ⟨k + 1, by omega, by go_num, (hfin _ _ hown3).out, (hF.alloc _).grown hgrow (fun x hx => .inr (hob x hx))⟩
              case measure => simp [intOf]; omega
            · have hx : overK A B k = A.getD k 0 := by unfold overK; rw [if_pos ⟨hA, hz⟩]
              have hfin := fun v' w3 h => hidIt (fin _ wr hx v' w3 h)
              have hbz : ((A.getD k 0 : Int) == 0) = false := by simpa using hz
              clear fin hx He hB0
              generalize A.getD k 0 = x at *
              go_wp2_with (at_builtin; refine Hid.out ?_)
              refine hidIt ?_
              refine wpList_append1 27 3 (.int .i64 0) 1 8 Try.underlying27 infoInt rfl (by decide) (by decide) rfl _ _ rfl w4.heap.size (.slice av k cv) k ((overN A B k).flatMap intC) rfl (hown.alloc _) (intC x) rfl int_one wr.heap.size rfl (Blk.new _ _ _) (by omega) (by simp; omega) ?_
              intro v' w3 hown3 hgrow hloc
              go_wp2
              go_roundw
              case rel => exact ⟨k + 1, by omega, by go_num, (hfin _ _ hown3).out, (hF.alloc _).grown hgrow (fun x hx => .inr (hob x hx))⟩
              case measure => simp [intOf]; omega
        · by_cases hB : k < B.length
          · obtain ⟨b', off', rfl, hb', cB⟩ := SlI.at hsB hB
            have hx : overK A B k = B.getD k 0 := by unfold overK; rw [if_neg (fun h => hA h.1)]
            have hfin := fun v' w3 h => hidIt (fin _ wr hx v' w3 h)
            clear fin hx He
            generalize B.getD k 0 = y at *
            go_wp2_with (at_builtin; refine Hid.out ?_)
            refine hidIt ?_
            refine wpList_append1 27 3 (.int .i64 0) 1 8 Try.underlying27 infoInt rfl (by decide) (by decide) rfl _ _ rfl w4.heap.size (.slice av k cv) k ((overN A B k).flatMap intC) rfl (hown.alloc _) (intC y) rfl int_one wr.heap.size rfl (Blk.new _ _ _) (by omega) (by simp; omega) ?_
            intro v' w3 hown3 hgrow hloc
            go_wp2
            go_roundw
            case rel => exact ⟨k + 1, by omega, by go_num, (hfin _ _ hown3).out, (hF.alloc _).grown hgrow (fun x hx => .inr (hob x hx))⟩
            case measure => simp [intOf]; omega
          · have hke : k = max A.length B.length := by omega
            have Hz : Hid (ofE (overN A B k) = overE l m) := hidIt (by rw [hke, He.out])
            have hsl : SlI wr (.slice av k cv) (overN A B k) := SlF.of_owns (base := w4.heap.size) (e := 3) (size := 1) (by rw [overN_len]; exact hown)
            have hln : (overN A B k).length ≤ 4096 := by rw [overN_len]; omega
            have keyO := rOf_calls _ _ _ hsl hln
            clear hown hsl hke fin He
            go_wp2_with fail
            refine keyO.mono ?_
            rintro e w5 ⟨v5, rfl, hs5, hf5⟩
            go_wp2
            go_ret
            exact ⟨v5, rfl, by rw [← Hz.out]; exact hs5, (hF4.trans0 hF).trans0 hf5⟩
    · have hr2' : right m = false := by simpa using hr2
      have He : Hid (overE l m = []) := hidIt (by unfold overE; rw [if_neg (fun h => hr2 h.2)])
      have r1 := fun w hv => keyR (.slice a l.length cap) l w hv
      have r2 := fun w hv => keyR (.slice a' m.length cap') m w hv
      rw [hr] at r1
      rw [hr2'] at r2
      clear keyR
      go_enter Try.func19, Try.ntmps19
      go_wp2_with fail
      refine (r1 w hv).mono ?_
      rintro e w1 ⟨rfl, hf1⟩
      go_wp2_with fail
      refine (r2 w1 (SlF.fr0 hu hf1)).mono ?_
      rintro e w2 ⟨rfl, hf2⟩
      go_wp2
      go_ret
      exact ⟨_, rfl, by rw [He.out]; exact Sl.nil _, hf1.trans0 hf2⟩
  · have hr' : right l = false := by simpa using hr
    have He : Hid (overE l m = []) := hidIt (by unfold overE; rw [if_neg (fun h => hr h.1)])
    have r1 := fun w hv => keyR (.slice a l.length cap) l w hv
    rw [hr'] at r1
    clear keyR
    go_enter Try.func19, Try.ntmps19
    go_wp2_with fail
    refine (r1 w hv).mono ?_
    rintro e w1 ⟨rfl, hf1⟩
    go_wp2
    go_ret
    exact ⟨_, rfl, by rw [He.out]; exact Sl.nil _, hf1⟩
set_option maxRecDepth 100000 in
set_option maxHeartbeats 1600000 in
theorem SameI_calls (v u : Value) (A B : List Int) (w : World) (hv : SlI w v A) (hu : SlI w u B) : Calls Try.prog 27 #[v, u] w fun e w' => e = .returned (.bool (decide (A = B))) ∧ Fr [] w w' := by
  obtain ⟨a, cap, rfl, hlc, hcm, _⟩ := hv.open
  obtain ⟨a', cap', rfl, hlc', hcm', _⟩ := hu.open
  unfold maxLen at hcm hcm'
  by_cases hl : A.length = B.length
  · have Hy : Hid ((∀ j, j < A.length → A.getD j 0 = B.getD j 0) → decide (A = B) = true) := hidIt (fun h => by
      have : A = B := by
        apply List.ext_getElem hl
        intro i h1 h2
        have := h i h1
        rwa [List.getD_eq_getElem?_getD, List.getD_eq_getElem?_getD, List.getElem?_eq_getElem h1, List.getElem?_eq_getElem h2] at this
      simp [this])
    have Hn : Hid (∀ j, A.getD j 0 ≠ B.getD j 0 → decide (A = B) = false) := hidIt (fun j h => by simp; rintro rfl; exact h rfl)
    generalize decide (A = B) = res at *
    have hl' : B.length = A.length := hl.symm
    clear hl
    rw [hl'] at hlc'
    go_enter Try.func27, Try.ntmps27
    go_wp2_with fail
    go_loopw [5] (fun i wr => ∃ k : Nat, k ≤ A.length ∧ i = .int .i64 k ∧ Hid (∀ j, j < k → A.getD j 0 = B.getD j 0) ∧ Fr [] w wr) (fun i _ => A.length - (intOf i).toNat)
    case atStart => exact ⟨0, Nat.zero_le _, rfl, hidIt (fun j h => by omega), Fr.refl _ _⟩
    case round =>
      obtain ⟨k, hk, rfl, hall, hF⟩ := hrel
      by_cases hlt : k < A.length
      · obtain ⟨b, off, rfl, hb, c0⟩ := SlI.at (hv.fr0 hF) hlt
        obtain ⟨b', off', rfl, hb', d0⟩ := SlI.at (hu.fr0 hF) (i := k) (by omega)
        by_cases he : A.getD k 0 = B.getD k 0
        · have Hs : Hid (∀ j, j < k + 1 → A.getD j 0 = B.getD j 0) := hidIt (fun j hj => by
            by_cases h : j = k
            · subst h; exact he
            · exact hall.out j (by omega))
          rw [← he] at d0
          generalize A.getD k 0 = x at *
          clear he hall Hy Hn
          go_wp2_with fail
          go_quiet (fail)
          go_wp2
          go_roundw
          case rel => exact ⟨k + 1, by omega, by go_num, Hs, hF.drewN _⟩
          case measure => simp [intOf]; omega
        · have Hr := hidIt (Hn.out k he)
          generalize A.getD k 0 = x at *
          generalize B.getD k 0 = y at *
          have hbe : ((x : Int) == y) = false := by simpa using he
          clear he hall Hy Hn
          go_wp2_with fail
          go_quiet (fail)
          go_wp2
          go_ret
          exact ⟨ret_bool Hr.out.symm, hF.drewN _⟩
      · have hke : k = A.length := by omega
        have Hr := hidIt (Hy.out (fun j hj => hall.out j (by omega)))
        clear hall Hy Hn hke
        go_wp2
        go_ret
        exact ⟨ret_bool Hr.out.symm, hF⟩
  · have hd : decide (A = B) = false := by simp; rintro rfl; exact hl rfl
    rw [hd]
    have hl' : ¬ (A.length : Int) = (B.length : Int) := by omega
    clear hd
    go_enter Try.func27, Try.ntmps27
    go_wp2
    go_ret
    exact ⟨rfl, Fr.refl _ _⟩
end Go.Proofs.Ytkammkbjkojfmaa
