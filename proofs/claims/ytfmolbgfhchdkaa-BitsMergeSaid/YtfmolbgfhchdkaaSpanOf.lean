/-
  span.Of.
-/
import Derived.Test.YtfmolbgfhchdkaaSpanP
namespace Go.Proofs.Ytfmolbgfhchdkaa
open Go.RowKit Go.Maps

theorem infoInt : (Try.prog.info? 3).map (fun i => (i.zero, i.size, i.bytes)) = some (some (.int .i64 0), 1, 8) := by kernel_rfl
set_option maxRecDepth 100000 in
set_option maxHeartbeats 1600000 in
theorem OfOwn_calls (v : Value) (ks : List Int) (w : World) (hv : SlI w v ks) (hn : ks.length ≤ 4096) : Calls Try.prog 39 #[v] w fun e w' => ∃ v', e = .returned v' ∧ w'.ownsRow w.heap.size 45 3 v' (ofE ks).length ((ofE ks).flatMap op3C) ∧ Fr [] w w' := by
  obtain ⟨a, cap, rfl, hlc, hcm, _⟩ := hv.open
  unfold maxLen at hcm
  have hgt : ¬ (65536 : Int) < (ks.length : Int) := by omega
  go_enter Try.func39, Try.ntmps39
  go_wp2_with fail
  go_loopw [3, 5, 11] (fun v _ i wr => ∃ n : Nat, n ≤ ks.length ∧ i = .int .i64 n ∧ wr.ownsRow w.heap.size 45 3 v (ofE (ks.take n)).length ((ofE (ks.take n)).flatMap op3C) ∧ Fr [] w wr) (fun _ _ i _ => ks.length - (intOf i).toNat)
  case atStart => exact ⟨0, Nat.zero_le _, rfl, World.ownsRow_nil _ _ _ _, Fr.refl _ _⟩
  case round =>
    obtain ⟨n, hnl, rfl, hown, hF⟩ := hrel
    by_cases hlt : n < ks.length
    · obtain ⟨b, off, rfl, hb, c0⟩ := SlI.at (hv.fr0 hF) hlt
      have hR := RightE.of (ks.take n)
      have hsm := hR.small (by simp; omega)
      have hl := hR.len
      rw [List.length_take] at hl
      have Hst : Hid (ofE (ks.take (n + 1)) = addE (ofE (ks.take n)) (ks.getD n 0)) := hidIt (by
        have hg : ks[n] = ks.getD n 0 := by rw [List.getD_eq_getElem?_getD, List.getElem?_eq_getElem hlt]; rfl
        rw [List.take_succ_eq_append_getElem hlt, hg, ofE_snoc])
      have hob := own_base hown
      have hsz := hF.size
      clear hR
      generalize ofE (ks.take n) = E at *
      generalize ks.getD n 0 = k at *
      go_wp2_with fail
      refine (add_calls w.heap.size u3 E k _ hown hsm (by omega) (by omega)).mono ?_
      rintro e w2 ⟨v2, rfl, hown2, hf2⟩
      go_wp2
      go_roundw
      case rel => exact ⟨n + 1, by omega, by go_num, by rw [Hst.out]; exact hown2, hF.trans hf2 (fun x hx hl => by have := hob x (by simpa using hx); omega)⟩
      case measure => simp [intOf]; omega
    · have hke : n = ks.length := by omega
      rw [hke, List.take_length] at hown
      clear hke
      go_wp2
      go_ret
      exact ⟨u3, rfl, hown, hF⟩
theorem Of_calls (v : Value) (ks : List Int) (w : World) (hv : SlI w v ks) (hn : ks.length ≤ 4096) : Calls Try.prog 39 #[v] w fun e w' => ∃ v', e = .returned v' ∧ SlP w' v' (ofE ks) ∧ Fr [] w w' :=
  (OfOwn_calls v ks w hv hn).mono fun _ _ ⟨v', h1, h2, h3⟩ => ⟨v', h1, SlF.of_owns h2, h3⟩
end Go.Proofs.Ytfmolbgfhchdkaa
