/-
  span.Of; bits.Row.
-/
import Derived.Test.YtfmolbgfhchdkaaSpanP
namespace Go.Proofs.Ytfmolbgfhchdkaa
open Go.RowKit Go.Maps

theorem infoInt : (Try.prog.info? 3).map (fun i => (i.zero, i.size, i.bytes)) = some (some (.int .i64 0), 1, 8) := by kernel_rfl
set_option maxRecDepth 100000 in
set_option maxHeartbeats 1600000 in
theorem Of_calls (v : Value) (ks : List Int) (w : World) (hv : SlI w v ks) (hn : ks.length ≤ 4096) : Calls Try.prog 39 #[v] w fun e w' => ∃ v', e = .returned v' ∧ SlP w' v' (ofE ks) ∧ Fr [] w w' := by
  obtain ⟨a, cap, rfl, hlc, hcm, _⟩ := hv.open
  unfold maxLen at hcm
  have hgt : ¬ (65536 : Int) < (ks.length : Int) := by omega
  go_enter Try.func39, Try.ntmps39
  go_wp2_with fail
  go_loopw [3, 5, 11] (fun v _ i wr => ∃ n : Nat, n ≤ ks.length ∧ i = .int .i64 n ∧ wr.ownsRow w.heap.size 45 3 v (ofE (ks.take n)).length ((ofE (ks.take n)).flatMap op3C) ∧ Fr [] w wr) (fun _ _ i _ => ks.length - (intOf i).toNat)
  case atStart => exact ⟨0, Nat.zero_le _, rfl, World.ownsRow_nil _ _ _ _, Fr.refl _ _⟩
  case round =>
    obtain ⟨n, hnl, rfl, hown, hF⟩ := hrel
    by_cases hlt : n < ks.length
    · obtain ⟨b, off, rfl, hb, c0⟩ := SlI.at (hv.fr0 hF) hlt
      have hR := RightE.of (ks.take n)
      have hsm := hR.small (by simp; omega)
      have hl := hR.len
      rw [List.length_take] at hl
      have Hst : Hid (ofE (ks.take (n + 1)) = addE (ofE (ks.take n)) (ks.getD n 0)) := hidIt (by
        have hg : ks[n] = ks.getD n 0 := by rw [List.getD_eq_getElem?_getD, List.getElem?_eq_getElem hlt]; rfl
        rw [List.take_succ_eq_append_getElem hlt, hg, ofE_snoc])
      have hob := own_base hown
      have hsz := hF.size
      clear hR
      generalize ofE (ks.take n) = E at *
      generalize ks.getD n 0 = k at *
      go_wp2_with fail
      refine (add_calls w.heap.size u3 E k _ hown hsm (by omega) (by omega)).mono ?_
      rintro e w2 ⟨v2, rfl, hown2, hf2⟩
      go_wp2
      go_roundw
      case rel => exact ⟨n + 1, by omega, by go_num, by rw [Hst.out]; exact hown2, hF.trans hf2 (fun x hx hl => by have := hob x (by simpa using hx); omega)⟩
      case measure => simp [intOf]; omega
    · have hke : n = ks.length := by omega
      rw [hke, List.take_length] at hown
      clear hke
      go_wp2
      go_ret
      exact ⟨u3, rfl, SlF.of_owns hown, hF⟩
def kindsB (S g : Nat) (l : List Bool) (n : Nat) : List Int := (List.range n).map fun s : Nat => if isB S g l s = true then 1 else 0
theorem kindsB_succ (S g : Nat) (l : List Bool) (n : Nat) : kindsB S g l (n + 1) = kindsB S g l n ++ [if isB S g l n = true then 1 else 0] := by
  unfold kindsB
  rw [List.range_succ, List.map_append]
  rfl
theorem kindsB_len (S g : Nat) (l : List Bool) (n : Nat) : (kindsB S g l n).length = n := by simp [kindsB]
theorem kindsB_getD (S g : Nat) (l : List Bool) {n s : Nat} (h : s < n) : (kindsB S g l n).getD s 0 = if isB S g l s = true then 1 else 0 := by
  unfold kindsB
  rw [List.getD_eq_getElem?_getD, List.getElem?_map, List.getElem?_range h]
  rfl
set_option maxRecDepth 100000 in
set_option maxHeartbeats 1600000 in
theorem Row_calls (tb mb S g : Nat) (l : List Bool) (w : World) (h : BitW w tb mb S g l) : Calls Try.prog 18 #[.pointer (some ⟨tb, 0, none⟩)] w fun e w' => ∃ v', e = .returned v' ∧ SlP w' v' (ofE (kindsB S g l S)) ∧ Fr [] w w' := by
  have hS := h.size
  have c := h.blk.cell
  have hlt0 := h.lt.1
  go_enter Try.func18, Try.ntmps18
  go_wp2_with fail
  go_loopw [3, 4, 5, 10] (fun v _ _ i wr => ∃ n : Nat, n ≤ S ∧ i = .int .i64 n ∧ wr.ownsRow w.heap.size 3 1 v n ((kindsB S g l n).flatMap intC) ∧ Fr [] w wr) (fun _ _ _ i _ => S - (intOf i).toNat)
  case atStart => exact ⟨0, Nat.zero_le _, rfl, World.ownsRow_nil _ _ _ _, Fr.refl _ _⟩
  case round =>
    obtain ⟨n, hnl, rfl, hown, hF⟩ := hrel
    have hW := h.fr0 hF
    clear c
    by_cases hlt : n < S
    · have Hst := hidIt (kindsB_succ S g l n)
      generalize kindsB S g l n = K at *
      go_wp2_with fail
      refine (Is_calls tb mb S g l n _ hW).mono ?_
      rintro e w2 ⟨rfl, hf2⟩
      have hown2 := owns_fr hown hf2 (by simp)
      have hF2 := hF.trans0 hf2
      have hob := own_base hown2
      have hsz := hF2.size
      clear hown hF hf2 hW
      generalize isB S g l (n : Int) = q at *
      cases q
      · go_wp2_with (at_builtin; refine Hid.out ?_)
        refine hidIt ?_
        refine wpList_append1 60 3 (.int .i64 0) 1 8 Try.underlying60 infoInt rfl (by decide) (by decide) rfl _ _ rfl w.heap.size u3 n (K.flatMap intC) rfl (hown2.alloc _) (intC 0) rfl int_one w2.heap.size rfl (Blk.new _ _ _) (by omega) (by simp; omega) ?_
        intro v' w3 hown3 hgrow hloc
        go_frame
        go_wp2
        go_roundw
        case rel => exact ⟨n + 1, by omega, by go_num, by rw [Hst.out]; simpa using hown3, (hF2.alloc _).grown hgrow (fun x hx => .inr (hob x hx))⟩
        case measure => simp [intOf]; omega
      · go_wp2_with (at_builtin; refine Hid.out ?_)
        refine hidIt ?_
        refine wpList_append1 60 3 (.int .i64 0) 1 8 Try.underlying60 infoInt rfl (by decide) (by decide) rfl _ _ rfl w.heap.size u3 n (K.flatMap intC) rfl (hown2.alloc _) (intC 1) rfl int_one w2.heap.size rfl (Blk.new _ _ _) (by omega) (by simp; omega) ?_
        intro v' w3 hown3 hgrow hloc
        go_frame
        go_wp2
        go_roundw
        case rel => exact ⟨n + 1, by omega, by go_num, by rw [Hst.out]; simpa using hown3, (hF2.alloc _).grown hgrow (fun x hx => .inr (hob x hx))⟩
        case measure => simp [intOf]; omega
    · have hke : n = S := by omega
      subst hke
      have hsl : SlI wr u3 (kindsB n g l n) := SlF.of_owns (base := w.heap.size) (e := 3) (size := 1) (by rw [kindsB_len]; exact hown)
      have hkl := kindsB_len n g l n
      go_wp2_with fail
      refine (Of_calls u3 _ _ hsl (by omega)).mono ?_
      rintro e w2 ⟨v2, rfl, hs2, hf2⟩
      go_wp2
      go_ret
      exact ⟨v2, rfl, hs2, hF.trans0 hf2⟩
end Go.Proofs.Ytfmolbgfhchdkaa
