/-
  bits.Row.
-/
import Derived.Test.YtfmolbgfhchdkaaSpanOf
import Derived.Test.YtfmolbgfhchdkaaBitI
namespace Go.Proofs.Ytfmolbgfhchdkaa
open Go.RowKit Go.Maps

def kindsB (S g : Nat) (l : List Bool) (n : Nat) : List Int := (List.range n).map fun s : Nat => if isB S g l s = true then 1 else 0
theorem kindsB_succ (S g : Nat) (l : List Bool) (n : Nat) : kindsB S g l (n + 1) = kindsB S g l n ++ [if isB S g l n = true then 1 else 0] := by
  unfold kindsB
  rw [List.range_succ, List.map_append]
  rfl
theorem kindsB_len (S g : Nat) (l : List Bool) (n : Nat) : (kindsB S g l n).length = n := by simp [kindsB]
theorem kindsB_getD (S g : Nat) (l : List Bool) {n s : Nat} (h : s < n) : (kindsB S g l n).getD s 0 = if isB S g l s = true then 1 else 0 := by
  unfold kindsB
  rw [List.getD_eq_getElem?_getD, List.getElem?_map, List.getElem?_range h]
  rfl
set_option maxRecDepth 100000 in
set_option maxHeartbeats 1600000 in
theorem Row_calls (tb mb S g : Nat) (l : List Bool) (w : World) (h : BitW w tb mb S g l) : Calls Try.prog 18 #[.pointer (some ⟨tb, 0, none⟩)] w fun e w' => ∃ v', e = .returned v' ∧ SlP w' v' (ofE (kindsB S g l S)) ∧ Fr [] w w' := by
  have hS := h.size
  have c := h.blk.cell
  have hlt0 := h.lt.1
  go_enter Try.func18, Try.ntmps18
  go_wp2_with fail
  go_loopw [3, 4, 5, 10] (fun v _ _ i wr => ∃ n : Nat, n ≤ S ∧ i = .int .i64 n ∧ wr.ownsRow w.heap.size 3 1 v n ((kindsB S g l n).flatMap intC) ∧ Fr [] w wr) (fun _ _ _ i _ => S - (intOf i).toNat)
  case atStart => exact ⟨0, Nat.zero_le _, rfl, World.ownsRow_nil _ _ _ _, Fr.refl _ _⟩
  case round =>
    obtain ⟨n, hnl, rfl, hown, hF⟩ := hrel
    have hW := h.fr0 hF
    clear c
    by_cases hlt : n < S
    · have Hst := hidIt (kindsB_succ S g l n)
      generalize kindsB S g l n = K at *
      go_wp2_with fail
      refine (Is_calls tb mb S g l n _ hW).mono ?_
      rintro e w2 ⟨rfl, hf2⟩
      have hown2 := owns_fr hown hf2 (by simp)
      have hF2 := hF.trans0 hf2
      have hob := own_base hown2
      have hsz := hF2.size
      clear hown hF hf2 hW
      generalize isB S g l (n : Int) = q at *
      cases q
      · go_wp2_with (at_builtin; refine Hid.out ?_)
        refine hidIt ?_
        refine wpList_append1 60 3 (.int .i64 0) 1 8 Try.underlying60 infoInt rfl (by decide) (by decide) rfl _ _ rfl w.heap.size u3 n (K.flatMap intC) rfl (hown2.alloc _) (intC 0) rfl int_one w2.heap.size rfl (Blk.new _ _ _) (by omega) (by simp; omega) ?_
        intro v' w3 hown3 hgrow hloc
        go_frame
        go_wp2
        go_roundw
        case rel => exact ⟨n + 1, by omega, by go_num, by rw [Hst.out]; simpa using hown3, (hF2.alloc _).grown hgrow (fun x hx => .inr (hob x hx))⟩
        case measure => simp [intOf]; omega
      · go_wp2_with (at_builtin; refine Hid.out ?_)
        refine hidIt ?_
        refine wpList_append1 60 3 (.int .i64 0) 1 8 Try.underlying60 infoInt rfl (by decide) (by decide) rfl _ _ rfl w.heap.size u3 n (K.flatMap intC) rfl (hown2.alloc _) (intC 1) rfl int_one w2.heap.size rfl (Blk.new _ _ _) (by omega) (by simp; omega) ?_
        intro v' w3 hown3 hgrow hloc
        go_frame
        go_wp2
        go_roundw
        case rel => exact ⟨n + 1, by omega, by go_num, by rw [Hst.out]; simpa using hown3, (hF2.alloc _).grown hgrow (fun x hx => .inr (hob x hx))⟩
        case measure => simp [intOf]; omega
    · have hke : n = S := by omega
      subst hke
      have hsl : SlI wr u3 (kindsB n g l n) := SlF.of_owns (base := w.heap.size) (e := 3) (size := 1) (by rw [kindsB_len]; exact hown)
      have hkl := kindsB_len n g l n
      go_wp2_with fail
      refine (Of_calls u3 _ _ hsl (by omega)).mono ?_
      rintro e w2 ⟨v2, rfl, hs2, hf2⟩
      go_wp2
      go_ret
      exact ⟨v2, rfl, hs2, hF.trans0 hf2⟩
end Go.Proofs.Ytfmolbgfhchdkaa
