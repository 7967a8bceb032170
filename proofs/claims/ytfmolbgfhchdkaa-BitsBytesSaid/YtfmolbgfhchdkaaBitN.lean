/-
  law10.alive.
-/
import Derived.Test.YtfmolbgfhchdkaaBitM
import Derived.Test.YtfmolbgfhchdkaaBitE2
namespace Go.Proofs.Ytfmolbgfhchdkaa
open Go.RowKit Go.Maps

def a0 : List Bool := [false, false, false]
def a1 : List Bool := [true, true, false]
def a2 : List Bool := [false, true, false]
theorem alive_new : List.replicate (gran (10 : Int).toNat (4 : Int).toNat) false = a0 := by decide
theorem alive_set : doS 4 (10, a0) (0, 3, 2) = ((10, a1), 0) := by decide
theorem alive_clear : doS 4 (10, a1) (1, 0, 4) = ((10, a2), 0) := by decide
theorem alive_clear2 : doS 4 (10, a2) (1, 4, 3) = ((10, a2), 0) := by decide
theorem alive_cnt : cnt a1 = 2 := by decide
theorem alive_cnt2 : cnt a2 = 1 := by decide
theorem alive_is : isB 10 4 a1 7 = true := by decide
theorem alive_is2 : isB 10 4 a1 8 = false := by decide
set_option maxRecDepth 100000 in
set_option maxHeartbeats 1600000 in
theorem alive_calls (w : World) : Calls Try.prog 11 #[] w fun e w' => e = .returned (.bool true) ∧ Fr [] w w' := by
  go_enter Try.func11, Try.ntmps11
  go_wp2_with fail
  refine (New_yes 10 4 _ (by decide)).mono ?_
  rintro e w1 ⟨tb, mb, rfl, ht, hm, hW, hF⟩
  rw [alive_new] at hW
  replace hW : BitW w1 tb mb 10 4 a0 := hW
  go_wp2_with fail
  refine (Set_calls tb mb 10 4 a0 3 2 _ hW (by decide)).mono ?_
  rintro e w2 ⟨rfl, hW2, hf⟩
  rw [alive_set] at hW2 ⊢
  replace hF : Fr [] w w2 := hF.trans hf (fun x hx hl => by simp at hx; omega)
  clear hf hW
  go_wp2_with fail
  refine (Count_calls tb mb 10 4 a1 _ hW2).mono ?_
  rintro e w3 ⟨rfl, rfl⟩
  rw [alive_cnt]
  go_wp2_with fail
  refine (Is_calls tb mb 10 4 a1 7 _ hW2).mono ?_
  rintro e w3 ⟨rfl, hf⟩
  rw [alive_is]
  replace hW2 := hW2.fr0 hf
  replace hF := hF.trans0 hf
  clear hf
  go_wp2_with fail
  refine (Is_calls tb mb 10 4 a1 8 _ hW2).mono ?_
  rintro e w4 ⟨rfl, hf⟩
  rw [alive_is2]
  replace hW2 := hW2.fr0 hf
  replace hF := hF.trans0 hf
  clear hf
  go_wp2_with fail
  refine (Clear_calls tb mb 10 4 a1 0 4 _ hW2 (by decide)).mono ?_
  rintro e w5 ⟨rfl, hW3, hf⟩
  rw [alive_clear] at hW3 ⊢
  replace hF : Fr [] w w5 := hF.trans hf (fun x hx hl => by simp at hx; omega)
  clear hf hW2
  go_wp2_with fail
  refine (Clear_calls tb mb 10 4 a2 4 3 _ hW3 (by decide)).mono ?_
  rintro e w6 ⟨rfl, hW4, hf⟩
  rw [alive_clear2] at hW4 ⊢
  replace hF : Fr [] w w6 := hF.trans hf (fun x hx hl => by simp at hx; omega)
  clear hf hW3
  go_wp2_with fail
  refine (Count_calls tb mb 10 4 a2 _ hW4).mono ?_
  rintro e w7 ⟨rfl, rfl⟩
  rw [alive_cnt2]
  go_wp2_with fail
  refine (Encode_len tb mb 10 4 a2 _ hW4).mono ?_
  rintro e w8 ⟨a, c, rfl, hf⟩
  have e4 : 3 + (gran 10 4 + 7) / 8 = 4 := by decide
  rw [e4]
  replace hW4 := BitW.fr0 hW4 hf
  replace hF := hF.trans0 hf
  clear hf e4
  go_wp2_with fail
  refine (Same_like tb mb 10 4 tb mb a2 a2 _ hW4 hW4).mono ?_
  rintro e w9 ⟨rfl, hf⟩
  go_wp2
  go_ret
  exact ⟨ret_bool (by simp), hF.trans0 hf⟩
end Go.Proofs.Ytfmolbgfhchdkaa
