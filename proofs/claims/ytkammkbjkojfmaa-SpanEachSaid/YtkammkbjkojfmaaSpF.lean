/-
  law09.few, has.
-/
import Derived.Test.YtkammkbjkojfmaaSpW1
namespace Go.Proofs.Ytkammkbjkojfmaa
open Go.RowKit Go.Maps

/-- a length, cut to what counts -/
def clip (q : Int) : Int := min (max q 0) 300
def sumF (l : List Op3) : Int := l.foldl (fun n x => n + clip x.2.1) 0
theorem sumF_snoc (l : List Op3) (x : Op3) : sumF (l ++ [x]) = sumF l + clip x.2.1 := by unfold sumF; rw [List.foldl_append]; rfl
theorem sumF_succ (l : List Op3) {k : Nat} (hk : k < l.length) : sumF (l.take (k + 1)) = sumF (l.take k) + clip (l.getD k z3).2.1 := by
  have hg : l[k] = l.getD k z3 := by rw [List.getD_eq_getElem?_getD, List.getElem?_eq_getElem hk]; rfl
  rw [List.take_succ_eq_append_getElem hk, hg, sumF_snoc]
theorem sumF_le (l : List Op3) : ∀ k, k ≤ l.length → 0 ≤ sumF (l.take k) ∧ sumF (l.take k) ≤ 300 * k
  | 0, _ => by simp [sumF]
  | k + 1, hk => by
    have := sumF_le l k (by omega)
    rw [sumF_succ l (by omega)]
    unfold clip
    omega
/-- so short, or surely not right -/
def fewE (l : List Op3) : Prop := l.length ≤ 60 ∧ (∀ k, k < l.length → ¬ (300 < (l.getD k z3).2.1 ∧ (l.getD k z3).2.1 ≤ 65536)) ∧ sumF l ≤ 3000
theorem flat_sum {l : List Op3} (h : fewE l) (hr : right l = true) : ∀ k, k ≤ l.length → ((flatE (l.take k)).length : Int) = sumF (l.take k)
  | 0, _ => by simp [flatE, sumF]
  | k + 1, hk => by
    have ih := flat_sum h hr k (by omega)
    have hR := right_ok hr
    have hx := hR.1.2 k (by omega)
    have h2 := flat_take_le l (k + 1)
    have h3 := h.2.1 k (by omega)
    rw [flat_step (by omega)] at h2 ⊢
    rw [List.length_append, List.length_replicate] at h2 ⊢
    rw [sumF_succ l (by omega), ← ih]
    unfold clip
    omega
theorem fewE.kinds {l : List Op3} (h : fewE l) : (kindsE l).length ≤ 3000 := by
  by_cases hr : right l = true
  · have := flat_sum h hr l.length (Nat.le_refl _)
    rw [List.take_length] at this
    have h3 := h.2.2
    rw [kindsE_right hr]
    omega
  · rw [kindsE_not (by simpa using hr)]
    simp
set_option maxRecDepth 100000 in
set_option maxHeartbeats 1600000 in
theorem fewL_calls (v : Value) (l : List Op3) (w : World) (hv : SlP w v l) : Calls Try.prog 11 #[v] w fun e w' => ∃ B, e = .returned (.bool B) ∧ (B = true → fewE l) ∧ Fr [] w w' := by
  obtain ⟨a, cap, rfl, hlc, hcm, _⟩ := hv.open
  unfold maxLen at hcm
  have Hst : ∀ k, k < l.length → Hid (sumF (l.take (k + 1)) = sumF (l.take k) + clip (l.getD k z3).2.1) := fun k hk => hidIt (sumF_succ l hk)
  have Hle : ∀ k, k ≤ l.length → Hid (0 ≤ sumF (l.take k) ∧ sumF (l.take k) ≤ 300 * k) := fun k hk => hidIt (sumF_le l k hk)
  have Hd : Hid (sumF (l.take l.length) = sumF l) := hidIt (by rw [List.take_length])
  go_enter Try.func11, Try.ntmps11
  go_wp2_with fail
  go_loopw [3, 5, 8] (fun nx _ i wr => ∃ (k : Nat) (N : Int), k ≤ l.length ∧ i = .int .i64 k ∧ nx = .int .i64 N ∧ Hid (k ≤ 60 → N = sumF (l.take k)) ∧ Hid (∀ j, j < k → ¬ (300 < (l.getD j z3).2.1 ∧ (l.getD j z3).2.1 ≤ 65536)) ∧ Fr [] w wr) (fun _ _ i _ => l.length - (intOf i).toNat)
  case atStart => exact ⟨0, 0, Nat.zero_le _, rfl, rfl, hidIt (fun _ => by simp [sumF]), hidIt (fun j h => by omega), Fr.refl _ _⟩
  case round =>
    obtain ⟨k, N, hk, rfl, rfl, hN, hall, hF⟩ := hrel
    by_cases hlt : k < l.length
    · obtain ⟨b, off, rfl, hb, c0, c1, c2⟩ := SlP.at (hv.fr0 hF) hlt
      have hs := Hst k hlt
      have hle := Hle k hk
      by_cases hbig : 300 < (l.getD k z3).2.1 ∧ (l.getD k z3).2.1 ≤ 65536
      · obtain ⟨b1, b2⟩ := hbig
        generalize l.getD k z3 = x at *
        obtain ⟨p, q, r⟩ := x
        simp only at c0 c1 c2 b1 b2
        clear Hst Hle Hd hall hN hs hle
        go_wp2
        go_ret
        exact ⟨false, rfl, fun h => (by cases h), hF.alloc _⟩
      · have hall' : Hid (∀ j, j < k + 1 → ¬ (300 < (l.getD j z3).2.1 ∧ (l.getD j z3).2.1 ≤ 65536)) := hidIt (fun j hj => by
          by_cases h : j = k
          · subst h; exact hbig
          · exact hall.out j (by omega))
        generalize l.getD k z3 = x at hs c0 c1 c2 hbig
        obtain ⟨p, q, r⟩ := x
        simp only at c0 c1 c2 hbig hs
        have hN' : Hid (k + 1 ≤ 60 → wrap64 (N + clip q) = sumF (l.take (k + 1))) := hidIt (fun h => by
          have h1 := hN.out (by omega)
          have h2 := hle.out
          rw [hs.out, h1]
          refine IntWalk.wrap64_in _ ?_
          unfold clip
          omega)
        unfold clip at hN'
        clear Hst Hle hall hN hs hle Hd
        by_cases b1 : 300 < q
        · have b2 : ¬ q ≤ 65536 := fun h => hbig ⟨b1, h⟩
          have e1 : min (max q 0) 300 = 300 := by omega
          have b3 : ¬ q < 0 := by omega
          rw [e1] at hN'
          clear hbig
          go_wp2
          go_roundw
          case rel => exact ⟨k + 1, _, by omega, by go_num, rfl, hN', hall', hF.alloc _⟩
          case measure => simp [intOf]; omega
        · by_cases b3 : q < 0
          · have e1 : min (max q 0) 300 = 0 := by omega
            rw [e1] at hN'
            clear hbig
            go_wp2
            go_roundw
            case rel => exact ⟨k + 1, _, by omega, by go_num, rfl, by simpa using hN', hall', hF.alloc _⟩
            case measure => simp [intOf]; omega
          · have e1 : min (max q 0) 300 = q := by omega
            rw [e1] at hN'
            clear hbig
            go_wp2
            go_roundw
            case rel => exact ⟨k + 1, _, by omega, by go_num, rfl, hN', hall', hF.alloc _⟩
            case measure => simp [intOf]; omega
    · have hke : k = l.length := by omega
      have Hr : Hid ((decide ((l.length : Int) ≤ 60) = true ∧ decide (N ≤ 3000) = true) → fewE l) := hidIt (fun ⟨h1, h2⟩ => by
        simp only [decide_eq_true_eq] at h1 h2
        refine ⟨by omega, fun j hj => hall.out j (by omega), ?_⟩
        rw [← Hd.out, ← hke, ← hN.out (by omega)]
        exact h2)
      clear Hst Hle Hd hall hN hke
      by_cases h1 : (l.length : Int) ≤ 60
      · by_cases h2 : N ≤ 3000
        · have h3 : fewE l := Hr.out ⟨by simpa using h1, by simpa using h2⟩
          clear Hr
          go_wp2
          go_ret
          exact ⟨_, rfl, fun _ => h3, hF⟩
        · clear Hr
          go_wp2
          go_ret
          exact .inl ⟨rfl, hF⟩
      · clear Hr
        go_wp2
        go_ret
        exact .inl ⟨rfl, hF⟩
end Go.Proofs.Ytkammkbjkojfmaa
