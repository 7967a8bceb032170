/-
  check.Clean, check.counted.
-/
import Derived.Test.YtmbbmombhkaeoaaChkE
import Derived.Test.YtmbbmombhkaeoaaOwnV
namespace Go.Proofs.Ytmbbmombhkaeoaa
open Go.RowKit
attribute [local go_sem high] equalSlot0 equalSlotR0

set_option maxRecDepth 100000 in
theorem Clean_calls (v0 v1 v2 v3 : Value) (a b c d : List Int) (w : World) (h0 : SlI w v0 a) (h1 : SlI w v1 b) (h2 : SlI w v2 c) (h3 : SlI w v3 d)
    (l0 : a.length ≤ 4294967296) (l1 : b.length ≤ 4294967296) (l2 : c.length ≤ 4294967296) (l3 : d.length ≤ 4294967296) :
    Calls Try.prog 14 #[.agg #[v0, v1, v2, v3]] w fun e w' => e = .returned (.bool (decide (a.length + b.length + c.length + d.length = 0))) ∧ Fr [] w w' := by
  obtain ⟨a0, c0, rfl, _, _, _⟩ := h0.open
  obtain ⟨a1, c1, rfl, _, _, _⟩ := h1.open
  obtain ⟨a2, c2, rfl, _, _, _⟩ := h2.open
  obtain ⟨a3, c3, rfl, _, _, _⟩ := h3.open
  generalize a.length = A at *
  generalize b.length = B at *
  generalize c.length = C at *
  generalize d.length = D at *
  go_enter Try.func14, Try.ntmps14
  go_wp2
  go_ret
  exact ⟨ret_bool (by rw [Bool.eq_iff_iff]; simp; omega), (Fr.refl _ _).alloc _⟩
/-- the places so far at which p holds -/
def pickTo (p : Nat → Bool) (k : Nat) : List Int := ((List.range k).filter p).map (fun (i : Nat) => (i : Int))
theorem pickTo_succ (p : Nat → Bool) (k : Nat) : pickTo p (k + 1) = pickTo p k ++ if p k = true then [(k : Int)] else [] := by
  unfold pickTo
  rw [List.range_succ, List.filter_append, List.map_append]
  congr 1
  by_cases h : p k = true <;> simp [h]
theorem pickTo_len (p : Nat → Bool) (k : Nat) : (pickTo p k).length ≤ k := by
  unfold pickTo
  rw [List.length_map]
  have := List.length_filter_le p (List.range k)
  simpa using this
def moreB (n l : List Int) (i : Nat) : Bool := decide (l.getD i 0 < n.getD i 0)
def lessB (n l : List Int) (i : Nat) : Bool := decide (n.getD i 0 < l.getD i 0)
set_option maxRecDepth 100000 in
set_option maxHeartbeats 1600000 in
theorem counted_calls (v u : Value) (n l : List Int) (w : World) (hv : SlI w v n) (hu : SlI w u l) (hnl : n.length = l.length) (hn : n.length ≤ 1048576) :
    Calls Try.prog 22 #[v, u] w fun e w' => ∃ v1 v2, e = .returned (.tuple #[v1, v2]) ∧ OwnV w' w.heap.size 3 [v1, v2] [pickTo (moreB n l) n.length, pickTo (lessB n l) n.length] ∧ Fr [] w w' := by
  obtain ⟨a, cap, rfl, hlc, hcm, _⟩ := hv.open
  obtain ⟨a', cap', rfl, hlc', hcm', _⟩ := hu.open
  unfold maxLen at hcm hcm'
  have Hnl := hidIt hnl
  clear hnl
  go_enter Try.func22, Try.ntmps22
  go_wp2
  go_loopw [6, 7, 11] (fun x y i wr => ∃ k : Nat, k ≤ n.length ∧ i = .int .i64 k ∧ OwnV wr w.heap.size 3 [x, y] [pickTo (moreB n l) k, pickTo (lessB n l) k] ∧ Fr [] w wr) (fun _ _ i _ => n.length - (intOf i).toNat)
  case atStart => exact ⟨0, Nat.zero_le _, rfl, OwnV.nil _ _ _ 2, Fr.refl _ _⟩
  case round =>
    obtain ⟨k, hk, rfl, hO, hF⟩ := hrel
    by_cases hlt : k < n.length
    · obtain ⟨b, off, rfl, hb, c0⟩ := SlI.at (hv.fr0 hF) hlt
      obtain ⟨b', off', rfl, hb', d0⟩ := SlI.at (hu.fr0 hF) (show k < l.length by have := Hnl.out; omega)
      have Hm : Hid (pickTo (moreB n l) (k + 1) = pickTo (moreB n l) k ++ if l.getD k 0 < n.getD k 0 then [(k : Int)] else []) := hidIt (by rw [pickTo_succ]; simp [moreB])
      have Hl : Hid (pickTo (lessB n l) (k + 1) = pickTo (lessB n l) k ++ if n.getD k 0 < l.getD k 0 then [(k : Int)] else []) := hidIt (by rw [pickTo_succ]; simp [lessB])
      have hp1 := pickTo_len (moreB n l) k
      have hp2 := pickTo_len (lessB n l) k
      generalize pickTo (moreB n l) k = M at *
      generalize pickTo (lessB n l) k = L at *
      generalize n.getD k 0 = x at *
      generalize l.getD k 0 = y at *
      have hlt' : (k : Int) < (n.length : Int) := by omega
      have hk0 : (0 : Int) ≤ k := by omega
      have hlt2 : (k : Int) < (l.length : Int) := by have := Hnl.out; omega
      have o6 := hO.2.1 0 _ rfl
      have o7 := hO.2.1 1 _ rfl
      have b6 := own_base o6
      have b7 := own_base o7
      have hsz := hF.size
      have hOd : ∀ q, OwnV (wr.drewN q) w.heap.size 3 [u6, u7] [M, L] := fun q => hO
      by_cases h1 : y < x
      · have h2 : ¬ x < y := by omega
        rw [if_pos h1] at Hm
        rw [if_neg h2, List.append_nil] at Hl
        go_wp2_with fail
        go_quiet (fail)
        go_wp2_with (at_builtin; refine wpList_append1 22 3 (.int .i64 0) 1 8 Try.underlying22 infoInt rfl (by decide) (by decide) rfl _ _ rfl w.heap.size _ _ _ rfl ((owns_drewN o6 _).alloc _) (intC k) rfl int_one wr.heap.size rfl (Blk.new _ _ _) (by simp only [List.getD_cons_zero]; omega) (by simp; omega) ?_; intro v' w3 hown2 hgrow hloc)
        go_roundw
        case rel => exact ⟨k + 1, by omega, by go_num, by rw [Hm.out, Hl.out]; exact ((hOd _).fr ((Fr.refl [] _).alloc _) (by simp)).step 0 k rfl hown2 hgrow hloc, ((hF.drewN _).alloc _).grown hgrow (fun x hx => .inr (b6 x hx))⟩
        case measure => simp [intOf]; omega
      · rw [if_neg h1, List.append_nil] at Hm
        by_cases h2 : x < y
        · rw [if_pos h2] at Hl
          go_wp2_with fail
          go_quiet (fail)
          go_wp2_with fail
          go_quiet (fail)
          go_wp2_with (at_builtin; refine wpList_append1 22 3 (.int .i64 0) 1 8 Try.underlying22 infoInt rfl (by decide) (by decide) rfl _ _ rfl w.heap.size _ _ _ rfl ((owns_drewN o7 _).alloc _) (intC k) rfl int_one wr.heap.size rfl (Blk.new _ _ _) (by simp only [List.getD_cons_succ, List.getD_cons_zero]; omega) (by simp; omega) ?_; intro v' w3 hown2 hgrow hloc)
          exact ⟨⟨k + 1, by omega, by go_num, by rw [Hm.out, Hl.out]; exact ((hOd _).fr ((Fr.refl [] _).alloc _) (by simp)).step 1 k rfl hown2 hgrow hloc, ((hF.drewN _).alloc _).grown hgrow (fun x hx => .inr (b7 x hx))⟩, by simp [intOf]; omega⟩
        · rw [if_neg h2, List.append_nil] at Hl
          go_wp2_with fail
          go_quiet (fail)
          go_wp2_with fail
          go_quiet (fail)
          go_wp2
          go_roundw
          case rel => exact ⟨k + 1, by omega, by go_num, by rw [Hm.out, Hl.out]; exact hO, hF.drewN _⟩
          case measure => simp [intOf]; omega
    · have Hk : Hid (k = n.length) := hidIt (by omega)
      rw [Hk.out] at hO
      go_wp2
      go_ret2
      exact ⟨u6, u7, rfl, hO, hF⟩
end Go.Proofs.Ytmbbmombhkaeoaa
