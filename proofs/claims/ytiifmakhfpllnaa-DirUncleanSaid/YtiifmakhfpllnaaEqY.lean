/-
  slices.Equal of bytes.
-/
import Derived.Test.YtiifmakhfpllnaaM09
import Derived.BigQuiet
namespace Go.Proofs.Ytiifmakhfpllnaa
open Go.RowKit Go.Maps
set_option maxRecDepth 100000 in
set_option maxHeartbeats 1600000 in
theorem EqualY_calls (v u : Value) (l m : List UInt8) (w : World) (hv : SlY w v l) (hu : SlY w u m) : Calls Try.prog 66 #[v, u] w fun e w' => e = .returned (.bool (decide (l = m))) ∧ Fr [] w w' := by
  obtain ⟨a, cap, rfl, _, hcm, _⟩ := hv.open
  obtain ⟨a', cap', rfl, _, hcm', _⟩ := hu.open
  unfold maxLen at hcm hcm'
  by_cases hlen : l.length = m.length
  · have hli : ((l.length : Int) != (m.length : Int)) = false := by simp [hlen]
    have Heq : Hid ((∀ i, i < l.length → l.getD i 0 = m.getD i 0) → decide (l = m) = true) := hidIt (fun h => decide_eq_true (by
      apply List.ext_getElem hlen
      intro i h1 h2
      have := h i h1
      rw [List.getD_eq_getElem?_getD, List.getElem?_eq_getElem h1, List.getD_eq_getElem?_getD, List.getElem?_eq_getElem h2] at this
      exact this))
    have Hne : ∀ i, Hid (l.getD i 0 ≠ m.getD i 0 → decide (l = m) = false) := fun i => hidIt (fun h => decide_eq_false (fun e => h (by rw [e])))
    generalize decide (l = m) = res at *
    have Hlen := hidIt hlen
    clear hlen
    go_enter Try.func66, Try.ntmps66
    go_wp2
    go_loopw [13] (fun i wr => ∃ k : Nat, k ≤ l.length ∧ i = .int .i64 k ∧ (∀ j, j < k → l.getD j 0 = m.getD j 0) ∧ Fr [] w wr) (fun i _ => l.length - (intOf i).toNat)
    case atStart => exact ⟨0, Nat.zero_le _, rfl, fun j hj => by omega, Fr.refl _ _⟩
    case round =>
      obtain ⟨k, hk, rfl, hall, hF⟩ := hrel
      by_cases hlt : k < l.length
      · have hlt' : k < m.length := by rw [← Hlen.out]; exact hlt
        obtain ⟨b, off, rfl, hb, c0⟩ := SlY.at (SlF.fr0 hv hF) hlt
        obtain ⟨b', off', rfl, hb', c0'⟩ := SlY.at (SlF.fr0 hu hF) hlt'
        have hkm : (k : Int) < (m.length : Int) := by omega
        have hne := Hne k
        have hnx : Hid (l.getD k 0 = m.getD k 0 → ∀ j, j < k + 1 → l.getD j 0 = m.getD j 0) := hidIt (fun h j hj => by
          by_cases e : j = k
          · subst e; exact h
          · exact hall j (by omega))
        clear Hne hall Heq
        generalize l.getD k 0 = x at *
        generalize m.getD k 0 = y at *
        by_cases hxy : x = y
        · have hb1 : ((x.toNat : Int) != (y.toNat : Int)) = false := by simp [hxy]
          replace hnx := hidIt (hnx.out hxy)
          clear hne hxy
          generalize (x.toNat : Int) = X at *
          generalize (y.toNat : Int) = Y at *
          go_wp2_with fail
          go_quiet (fail)
          go_wp2
          go_roundw
          case rel => exact ⟨k + 1, by omega, by go_num, hnx.out, hF.drewN _⟩
          case measure => simp [intOf]; omega
        · have hb1 : ((x.toNat : Int) != (y.toNat : Int)) = true := by
            simp
            intro h
            exact hxy (UInt8.toNat_inj.1 (by omega))
          replace hne := hidIt (hne.out hxy)
          clear hnx hxy
          generalize (x.toNat : Int) = X at *
          generalize (y.toNat : Int) = Y at *
          go_wp2_with fail
          go_quiet (fail)
          go_wp2
          go_ret
          exact ⟨ret_bool hne.out.symm, hF.drewN _⟩
      · have hke : k = l.length := by omega
        subst hke
        have hres := hidIt (Heq.out hall)
        clear Heq Hne hall
        go_wp2
        go_ret
        exact ⟨ret_bool hres.out.symm, hF⟩
  · have hli : ((l.length : Int) != (m.length : Int)) = true := by simp; omega
    have hd : decide (l = m) = false := decide_eq_false (fun e => hlen (by rw [e]))
    rw [hd]
    clear hd hlen
    go_enter Try.func66, Try.ntmps66
    go_wp2
    go_ret
    exact ⟨rfl, Fr.refl _ _⟩
end Go.Proofs.Ytiifmakhfpllnaa
