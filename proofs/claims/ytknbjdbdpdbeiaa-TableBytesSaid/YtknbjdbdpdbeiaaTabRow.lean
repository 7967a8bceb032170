/-
  table.Row, and the document's Row: a row of slots.
-/
import Derived.Test.YtknbjdbdpdbeiaaLaw08
namespace Go.Proofs.Ytknbjdbdpdbeiaa
open Go.RowKit Go.Maps

/-- N slots, from one on -/
def rowL (l : List Slt) (f : Int) (N : Nat) : List Slt := (List.range N).map fun (k : Nat) => tget l (wrap64 (f + (k : Int)))
def rowN (n : Int) : Nat := if 1 ≤ n ∧ n ≤ 256 then n.toNat else 0
theorem rowL_succ (l : List Slt) (f : Int) (k : Nat) : rowL l f (k + 1) = rowL l f k ++ [tget l (wrap64 (f + (k : Int)))] := by
  simp [rowL, List.range_succ]
theorem rowL_length (l : List Slt) (f : Int) (k : Nat) : (rowL l f k).length = k := by simp [rowL]
theorem rowL_flat (l : List Slt) (f : Int) (k : Nat) : (rowL l f (k + 1)).flatMap slotC = (rowL l f k).flatMap slotC ++ slotC (tget l (wrap64 (f + (k : Int)))) := by
  rw [rowL_succ]; simp
theorem rowN_le (n : Int) : rowN n ≤ 256 := by unfold rowN; split <;> omega
set_option maxRecDepth 100000 in
set_option maxHeartbeats 1600000 in
theorem Row_calls (tb mb : Nat) (l : List Slt) (f n : Int) (w : World) (hT : TabW w tb mb l) :
    Calls Try.prog 25 #[.pointer (some ⟨tb, 0, none⟩), .int .i64 f, .int .i64 n] w fun e w' => ∃ u, e = .returned u ∧ w'.ownsRow w.heap.size 43 3 u (rowN n) ((rowL l f (rowN n)).flatMap slotC) ∧ Fr [] w w' := by
  by_cases h : 1 ≤ n ∧ n ≤ 256
  · obtain ⟨N, rfl⟩ : ∃ N : Nat, n = (N : Int) := ⟨n.toNat, by omega⟩
    have hN : rowN (N : Int) = N := by unfold rowN; rw [if_pos h]; omega
    rw [hN]
    clear hN
    have h1 := h.1
    have h2 := h.2
    clear h
    go_enter Try.func25, Try.ntmps25
    go_wp2
    go_loopw [7, 16] (fun u i wr => ∃ k : Nat, k ≤ N ∧ i = .int .i64 k ∧ wr.ownsRow w.heap.size 43 3 u k ((rowL l f k).flatMap slotC) ∧ Fr [] w wr) (fun _ i _ => N - (intOf i).toNat)
    case atStart => exact ⟨0, Nat.zero_le _, rfl, World.ownsRow_nil _ _ _ _, Fr.refl _ _⟩
    case round =>
      obtain ⟨k, hk, rfl, hown, hF⟩ := hrel
      by_cases hlt : k < N
      · have Hst := hidIt (rowL_flat l f k)
        have key := Get_calls tb mb l (wrap64 (f + (k : Int))) wr (hT.fr0 hF)
        go_wp2_with fail
        refine key.mono ?_
        rintro e w1 ⟨rfl, hf⟩
        replace hown := owns_fr hown hf (by simp)
        replace hF := hF.trans0 hf
        have hnb := own_base hown
        have hsz := hF.size
        clear hf key
        generalize tget l (wrap64 (f + (k : Int))) = s at *
        go_wp2_with (at_builtin; refine wpList_append1 49 43 _ 3 24 Try.underlying49 infoSlot rfl (by decide) (by decide) rfl _ _ rfl w.heap.size _ _ _ rfl (hown.alloc _) (slotC s) rfl slot_one w1.heap.size rfl (Blk.new _ _ _) (by omega) (by simp; omega) ?_; intro v' w2 hown2 hgrow hloc)
        go_roundw
        case rel => exact ⟨k + 1, by omega, by go_num, by rw [Hst.out]; exact hown2, (hF.alloc _).grown hgrow (fun x hx => .inr (hnb x hx))⟩
        case measure => simp [intOf]; omega
      · have Hk : Hid (k = N) := hidIt (by omega)
        go_wp2
        go_ret
        rw [Hk.out] at hown
        exact ⟨_, rfl, hown, hF⟩
  · have hN : rowN n = 0 := by unfold rowN; rw [if_neg h]
    rw [hN]
    clear hN
    by_cases h1 : n < 1
    · clear h
      go_enter Try.func25, Try.ntmps25
      go_wp2
      go_ret
      exact ⟨_, rfl, World.ownsRow_nil _ _ _ _, Fr.refl _ _⟩
    · have h2 : 256 < n := by omega
      clear h
      go_enter Try.func25, Try.ntmps25
      go_wp2
      go_ret
      exact ⟨_, rfl, World.ownsRow_nil _ _ _ _, Fr.refl _ _⟩
set_option maxRecDepth 100000 in
set_option maxHeartbeats 1600000 in
theorem rRow_calls (v : Value) (l : List Slt) (f n : Int) (w : World) (hs : SlS w v l) :
    Calls Try.prog 26 #[v, .int .i64 f, .int .i64 n] w fun e w' => ∃ u, e = .returned u ∧ w'.ownsRow w.heap.size 32 3 u (rowN n) ((rowL l f (rowN n)).flatMap slotC) ∧ Fr [] w w' := by
  obtain ⟨a, cap, rfl, _, _, _⟩ := hs.open
  by_cases h : 1 ≤ n ∧ n ≤ 256
  · obtain ⟨N, rfl⟩ : ∃ N : Nat, n = (N : Int) := ⟨n.toNat, by omega⟩
    have hN : rowN (N : Int) = N := by unfold rowN; rw [if_pos h]; omega
    rw [hN]
    clear hN
    have h1 := h.1
    have h2 := h.2
    clear h
    go_enter Try.func26, Try.ntmps26
    go_wp2
    go_loopw [7, 8] (fun u i wr => ∃ k : Nat, k ≤ N ∧ i = .int .i64 k ∧ wr.ownsRow w.heap.size 32 3 u k ((rowL l f k).flatMap slotC) ∧ Fr [] w wr) (fun _ i _ => N - (intOf i).toNat)
    case atStart => exact ⟨0, Nat.zero_le _, rfl, World.ownsRow_nil _ _ _ _, Fr.refl _ _⟩
    case round =>
      obtain ⟨k, hk, rfl, hown, hF⟩ := hrel
      by_cases hlt : k < N
      · have Hst := hidIt (rowL_flat l f k)
        have key := rGet_calls _ l (wrap64 (f + (k : Int))) wr (hs.fr0 hF)
        go_wp2_with fail
        refine key.mono ?_
        rintro e w1 ⟨rfl, hf⟩
        replace hown := owns_fr hown hf (by simp)
        replace hF := hF.trans0 hf
        have hnb := own_base hown
        have hsz := hF.size
        clear hf key
        generalize tget l (wrap64 (f + (k : Int))) = s at *
        go_wp2_with (at_builtin; refine wpList_append1 27 32 _ 3 24 Try.underlying27 infoSlotR rfl (by decide) (by decide) rfl _ _ rfl w.heap.size _ _ _ rfl (hown.alloc _) (slotC s) rfl slot_one w1.heap.size rfl (Blk.new _ _ _) (by omega) (by simp; omega) ?_; intro v' w2 hown2 hgrow hloc)
        go_roundw
        case rel => exact ⟨k + 1, by omega, by go_num, by rw [Hst.out]; exact hown2, (hF.alloc _).grown hgrow (fun x hx => .inr (hnb x hx))⟩
        case measure => simp [intOf]; omega
      · have Hk : Hid (k = N) := hidIt (by omega)
        have hlt' : ¬ ((k : Int) < (N : Int)) := by omega
        go_wp2
        go_ret
        rw [Hk.out] at hown
        exact ⟨_, rfl, hown, hF⟩
  · have hN : rowN n = 0 := by unfold rowN; rw [if_neg h]
    rw [hN]
    clear hN
    go_enter Try.func26, Try.ntmps26
    go_wp2
    refine wp_loop_rounds 1 ?_
    rw [rounds_succ]
    by_cases h1 : n < 1
    · have h3 : ¬ (0 < n) := by omega
      clear h
      go_wp2
      go_ret
      exact ⟨_, rfl, World.ownsRow_nil _ _ _ _, Fr.refl _ _⟩
    · have h2 : 256 < n := by omega
      have h3 : 0 < n := by omega
      clear h
      go_wp2
      go_ret
      exact ⟨_, rfl, World.ownsRow_nil _ _ _ _, Fr.refl _ _⟩
end Go.Proofs.Ytknbjdbdpdbeiaa
