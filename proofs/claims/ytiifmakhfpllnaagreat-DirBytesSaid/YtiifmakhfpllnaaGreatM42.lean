/-
  slices.Equal of bytes.
-/
import Derived.Test.YtiifmakhfpllnaaGreatM09
import Derived.BigQuiet
import Derived.Test.YtiifmakhfpllnaaGreatM21
namespace Go.Proofs.YtiifmakhfpllnaaGreat
open Go.RowKit Go.Maps
set_option maxRecDepth 100000 in
set_option maxHeartbeats 1600000 in
theorem EqualY_calls (v u : Value) (l m : List UInt8) (w : World) (hv : SlY w v l) (hu : SlY w u m) : Calls Tryz.prog 27 #[v, u] w fun e w' => e = .returned (.bool (decide (l = m))) ∧ Fr [] w w' := by
  obtain ⟨a, cap, rfl, _, hcm, _⟩ := hv.open
  obtain ⟨a', cap', rfl, _, hcm', _⟩ := hu.open
  unfold maxLen at hcm hcm'
  by_cases hlen : l.length = m.length
  · have hli : ((l.length : Int) != (m.length : Int)) = false := by simp [hlen]
    have Heq : Hid ((∀ i, i < l.length → l.getD i 0 = m.getD i 0) → decide (l = m) = true) := hidIt (fun h => decide_eq_true (by
      apply List.ext_getElem hlen
      intro i h1 h2
      have := h i h1
      rw [List.getD_eq_getElem?_getD, List.getElem?_eq_getElem h1, List.getD_eq_getElem?_getD, List.getElem?_eq_getElem h2] at this
      exact this))
    have Hne : ∀ i, Hid (l.getD i 0 ≠ m.getD i 0 → decide (l = m) = false) := fun i => hidIt (fun h => decide_eq_false (fun e => h (by rw [e])))
    generalize decide (l = m) = res at *
    have Hlen := hidIt hlen
    clear hlen
    go_enter Tryz.func27, Tryz.ntmps27
    go_wp2
    go_loopw [13] (fun i wr => ∃ k : Nat, k ≤ l.length ∧ i = .int .i64 k ∧ (∀ j, j < k → l.getD j 0 = m.getD j 0) ∧ Fr [] w wr) (fun i _ => l.length - (intOf i).toNat)
    case atStart => exact ⟨0, Nat.zero_le _, rfl, fun j hj => by omega, Fr.refl _ _⟩
    case round =>
      obtain ⟨k, hk, rfl, hall, hF⟩ := hrel
      by_cases hlt : k < l.length
      · have hlt' : k < m.length := by rw [← Hlen.out]; exact hlt
        obtain ⟨b, off, rfl, hb, c0⟩ := SlY.at (SlF.fr0 hv hF) hlt
        obtain ⟨b', off', rfl, hb', c0'⟩ := SlY.at (SlF.fr0 hu hF) hlt'
        have hkm : (k : Int) < (m.length : Int) := by omega
        have hne := Hne k
        have hnx : Hid (l.getD k 0 = m.getD k 0 → ∀ j, j < k + 1 → l.getD j 0 = m.getD j 0) := hidIt (fun h j hj => by
          by_cases e : j = k
          · subst e; exact h
          · exact hall j (by omega))
        clear Hne hall Heq
        generalize l.getD k 0 = x at *
        generalize m.getD k 0 = y at *
        by_cases hxy : x = y
        · have hb1 : ((x.toNat : Int) != (y.toNat : Int)) = false := by simp [hxy]
          replace hnx := hidIt (hnx.out hxy)
          clear hne hxy
          generalize (x.toNat : Int) = X at *
          generalize (y.toNat : Int) = Y at *
          go_wp2_with fail
          go_quiet (fail)
          go_wp2
          go_roundw
          case rel => exact ⟨k + 1, by omega, by go_num, hnx.out, hF.drewN _⟩
          case measure => simp [intOf]; omega
        · have hb1 : ((x.toNat : Int) != (y.toNat : Int)) = true := by
            simp
            intro h
            exact hxy (UInt8.toNat_inj.1 (by omega))
          replace hne := hidIt (hne.out hxy)
          clear hnx hxy
          generalize (x.toNat : Int) = X at *
          generalize (y.toNat : Int) = Y at *
          go_wp2_with fail
          go_quiet (fail)
          go_wp2
          go_ret
          exact ⟨ret_bool hne.out.symm, hF.drewN _⟩
      · have hke : k = l.length := by omega
        subst hke
        have hres := hidIt (Heq.out hall)
        clear Heq Hne hall
        go_wp2
        go_ret
        exact ⟨ret_bool hres.out.symm, hF⟩
  · have hli : ((l.length : Int) != (m.length : Int)) = true := by simp; omega
    have hd : decide (l = m) = false := decide_eq_false (fun e => hlen (by rw [e]))
    rw [hd]
    clear hd hlen
    go_enter Tryz.func27, Tryz.ntmps27
    go_wp2
    go_ret
    exact ⟨rfl, Fr.refl _ _⟩
end Go.Proofs.YtiifmakhfpllnaaGreat

namespace Go.Proofs.YtiifmakhfpllnaaGreat
open Go.RowKit Go.ChangeShapes Go.WideShapes Go.ChangeAt Go.Deep
section
variable {H : Type} {enc : TypeId × Value → H} {w : World} {r : Reach} {base : Nat} {spare : Nat → Bool} {held : Bool} {v : Value} {d : DataW H} {p : List MemPlace}
theorem el_byte {P : Program} {n : Nat} {cs : List Value} {y : DataW H × List MemPlace} {base : Nat} {spare : Nat → Bool} {held : Bool} {t : TypeId} (ht : P.underlying t = some (.int .u8)) (h : DataW.trod enc P w base spare held n t cs = some y) : ∃ b : UInt8, cs = byC b ∧ True := by
  obtain ⟨x, hx, _, hw⟩ := DataW.trod_int ht h
  have hb : 0 ≤ x ∧ x ≤ 255 := by simpa [Lit.wf, IntKind.min, IntKind.max, IntKind.signed, IntKind.bits] using hw
  refine ⟨UInt8.ofNat x.toNat, ?_, trivial⟩
  rw [hx]
  have : ((UInt8.ofNat x.toNat).toNat : Int) = x := by rw [ofNat_toNat]; omega
  rw [byC, this]
/-- a slice that came in has an address, or no room -/
theorem sl_ok {P : Program} {w : World} {spare : Nat → Bool} {held : Bool} {v : Value} {d : DataW H} {p : List MemPlace} {t e : TypeId} (ht : P.underlying t = some (.slice e)) (h : DataW.Trod enc P w 0 spare held t v d p) : okV v := by
  intro n cap hv
  obtain ⟨fuel, hf⟩ := h
  rcases open_slice ht hf with ⟨hcs, hx⟩ | ⟨a, len, cap', m, n', D, Pl, hcs, _, hl', hm, hmm, hx, hi⟩
  · rw [hv] at hcs
    simp [Value.cells] at hcs
    exact hcs.2
  · rw [hv] at hcs
    simp [Value.cells] at hcs
set_option maxRecDepth 100000 in
theorem in_bytes (hok : Value.okWide Tryz.prog w r base 23 v) (h : DataW.Trod enc Tryz.prog w 0 spare held 23 v d p) : ∃ l, SlY w v l ∧ okV v := by
  obtain ⟨l, hl, _⟩ := open_SlF (k := 1) byC (fun _ => True) (fun _ => rfl) Tryz.underlying23 (by kernel_rfl) (by decide) (fun n cs y h => el_byte Tryz.underlying5 h) (okWide_slice Tryz.underlying23 hok) h
  exact ⟨l, hl, sl_ok Tryz.underlying23 h⟩
end
end Go.Proofs.YtiifmakhfpllnaaGreat
