/-
  Package bits: New, Count, granules.
-/
import Derived.Test.YtfmolbgfhchdkaaBitF
namespace Go.Proofs.Ytfmolbgfhchdkaa
open Go.RowKit Go.Maps
attribute [local go_sem] mapAt_alloc mapAt_setCell mapAt_drew mapAt_drewN

def pow2 (g : Int) : Bool := decide (g = 1) || decide (g = 2) || decide (g = 4) || decide (g = 8) || decide (g = 16) || decide (g = 32) || decide (g = 64)
theorem pow2_and {g : Int} (h1 : 1 ≤ g) (h2 : g ≤ 64) : (bits BinOp.and IntKind.i64 g (g - 1) != 0) = !pow2 g := by
  obtain ⟨n, rfl⟩ := Int.eq_ofNat_of_zero_le (by omega : 0 ≤ g)
  have hn : n < 65 := by omega
  have h0 : 1 ≤ n := by omega
  have key : ∀ m : Fin 65, 1 ≤ m.val → (bits BinOp.and IntKind.i64 (m.val : Int) ((m.val : Int) - 1) != 0) = !pow2 (m.val : Int) := by decide
  exact key ⟨n, hn⟩ h0
theorem pow2_le {g : Int} (h : pow2 g = true) : 1 ≤ g ∧ g ≤ 64 := by
  simp [pow2] at h
  omega
def okNew (s g : Int) : Bool := okSec s && pow2 g
theorem bitM_empty (n : Nat) : bitM (List.replicate n false) = fun _ => none := by
  funext x
  cases x with
  | int q k =>
    cases q with
    | i64 =>
      rw [bitM_int, if_neg]
      rintro ⟨_, h⟩
      rw [List.getD_eq_getElem?_getD, List.getElem?_replicate] at h
      split at h <;> simp at h
    | _ => rfl
  | _ => rfl
theorem BitW_new (S g : Nat) (w : World) (h : S ≤ 4096) (hg : 0 < g ∧ g ≤ 64) : BitW ((w.alloc (.map #[] 0)).alloc (.cells #[.int .i64 S, .int .i64 g, .map (some w.heap.size)] 71)) (w.heap.size + 1) w.heap.size S g (List.replicate (gran S g) false) := by
  refine ⟨?_, h, hg, by simp, #[], 0, ?_, ?_⟩
  · have := Blk.new (w.alloc (.map #[] 0)) [.int .i64 S, .int .i64 g, .map (some w.heap.size)] 71
    rw [World.size_alloc] at this
    exact this
  · rw [mapAt_some, Below.heap_alloc _ _ _ (by simp)]
    exact heap_alloc_new w _
  · rw [bitM_empty]; exact IsM.empty
set_option maxRecDepth 100000 in
set_option maxHeartbeats 1600000 in
theorem New_no (s g : Int) (w : World) (h : okNew s g = false) : Calls Try.prog 32 #[.int .i64 s, .int .i64 g] w
      fun r w' => r = .returned (.tuple #[.pointer none, .int .i64 1]) ∧ w = w' := by
  by_cases hs : okSec s = true
  · have hp : pow2 g = false := by simpa [okNew, hs] using h
    by_cases h1 : g < 1
    · go_enter Try.func32, Try.ntmps32
      go_wp2_with fail
      refine (right_calls _ _).mono ?_
      rintro e w1 ⟨rfl, rfl⟩
      rw [hs]
      go_wp2
      go_ret2
      exact ⟨rfl, rfl⟩
    · by_cases h2 : 64 < g
      · have h1' : 1 ≤ g := by omega
        clear h1
        go_enter Try.func32, Try.ntmps32
        go_wp2_with fail
        refine (right_calls _ _).mono ?_
        rintro e w1 ⟨rfl, rfl⟩
        rw [hs]
        go_wp2
        go_ret2
        exact ⟨rfl, rfl⟩
      · have hb := pow2_and (by omega : 1 ≤ g) (by omega : g ≤ 64)
        rw [hp] at hb
        have h1' : 1 ≤ g := by omega
        have h2' : g ≤ 64 := by omega
        clear h1 h2
        go_enter Try.func32, Try.ntmps32
        go_wp2_with fail
        refine (right_calls _ _).mono ?_
        rintro e w1 ⟨rfl, rfl⟩
        rw [hs]
        go_wp2
        go_ret2
        exact ⟨rfl, rfl⟩
  · have hs' : okSec s = false := by simpa using hs
    go_enter Try.func32, Try.ntmps32
    go_wp2_with fail
    refine (right_calls _ _).mono ?_
    rintro e w1 ⟨rfl, rfl⟩
    rw [hs']
    go_wp2
    go_ret2
    exact ⟨rfl, rfl⟩
set_option maxRecDepth 100000 in
set_option maxHeartbeats 1600000 in
theorem New_yes (s g : Int) (w : World) (h : okNew s g = true) : Calls Try.prog 32 #[.int .i64 s, .int .i64 g] w
      fun r w' => ∃ tb mb, r = .returned (.tuple #[.pointer (some ⟨tb, 0, none⟩), .int .i64 0]) ∧ w.heap.size ≤ tb ∧ w.heap.size ≤ mb ∧ BitW w' tb mb s.toNat g.toNat (List.replicate (gran s.toNat g.toNat) false) ∧ Fr [] w w' := by
  have hs : okSec s = true := by simp [okNew] at h; exact h.1
  have hp : pow2 g = true := by simp [okNew] at h; exact h.2
  have hg := pow2_le hp
  have hb := pow2_and hg.1 hg.2
  rw [hp] at hb
  have h1' := hg.1
  have h2' := hg.2
  have hmm := @run_makeMap Try.prog
  have hs1 : 0 ≤ s ∧ s ≤ 4096 := by simpa [okSec] using hs
  have hW := hidIt (BitW_new s.toNat g.toNat w (by omega) (by omega))
  have e1 : ((s.toNat : Nat) : Int) = s := by omega
  have e2 : ((g.toNat : Nat) : Int) = g := by omega
  rw [e1, e2] at hW
  generalize hS : s.toNat = S at *
  generalize hG : g.toNat = G at *
  clear e1 e2 hS hG
  go_enter Try.func32, Try.ntmps32
  go_wp2_with fail
  refine (right_calls _ _).mono ?_
  rintro e w1 ⟨rfl, rfl⟩
  rw [hs]
  go_wp2
  go_ret2
  exact ⟨w.heap.size + 1, w.heap.size, rfl, by omega, Nat.le_refl _, hW.out, ((Fr.refl _ _).alloc _).alloc _⟩
/-- how many granules are dirty -/
def cnt (l : List Bool) : Nat := ((List.range l.length).filter fun k => l.getD k false).length
theorem cnt_size {es : Array MapEntry} {clock : Nat} {l : List Bool} (hi : IsM Try.prog 3 es clock (bitM l)) : es.size = cnt l := by
  have := hi.size (ks := ((List.range l.length).filter fun k => l.getD k false).map fun k : Nat => Value.int .i64 (k : Int)) ?_ ?_
  · rw [this, List.length_map]; rfl
  · rw [List.pairwise_map]
    exact (List.Pairwise.filter _ List.nodup_range).imp (fun {a b} hab h => hab (by have := (Value.int.inj h).2; omega))
  · intro x
    simp only [List.mem_map, List.mem_filter, List.mem_range]
    constructor
    · rintro ⟨k, ⟨_, h⟩, rfl⟩
      rw [bitM_int, if_pos ⟨by omega, by simpa using h⟩]
      rfl
    · intro h
      cases x with
      | int q k =>
        cases q with
        | i64 =>
          rw [bitM_int] at h
          by_cases hc : 0 ≤ k ∧ l.getD k.toNat false = true
          · refine ⟨k.toNat, ⟨?_, hc.2⟩, by rw [Int.toNat_of_nonneg hc.1]⟩
            have := hc.2
            rw [List.getD_eq_getElem?_getD] at this
            by_cases hl : k.toNat < l.length
            · exact hl
            · rw [List.getElem?_eq_none (by omega)] at this
              cases this
          · rw [if_neg hc] at h
            cases h
        | _ => cases h
      | _ => cases h
theorem cnt_le (l : List Bool) : cnt l ≤ l.length := by
  unfold cnt
  have := List.length_filter_le (fun k => l.getD k false) (List.range l.length)
  simpa using this
theorem Count_calls (tb mb S g : Nat) (l : List Bool) (w : World) (h : BitW w tb mb S g l) : Calls Try.prog 16 #[.pointer (some ⟨tb, 0, none⟩)] w fun e w' => e = .returned (.int .i64 (cnt l)) ∧ w = w' := by
  have c := h.blk.cell
  obtain ⟨es, clock, hm, hi⟩ := h.map
  have hlen := run_len_map (P := Try.prog) (T := 69) (ty := 3) (E := 3) (es := es) (clock := clock) Try.underlying69 w hm
  rw [cnt_size hi] at hlen
  go_enter Try.func16, Try.ntmps16
  go_wp2
  go_ret
  exact ⟨rfl, rfl⟩
set_option maxRecDepth 100000 in
theorem granulesB_calls (tb S g : Nat) (u : Value) (w : World) (B : Blk w tb [.int .i64 S, .int .i64 g, u] 71) (hs : S ≤ 4096) (hg : 0 < g ∧ g ≤ 64) : Calls Try.prog 35 #[.pointer (some ⟨tb, 0, none⟩)] w fun e w' => e = .returned (.int .i64 (gran S g)) ∧ Fr [] w w' := by
  have c := B.cell
  go_enter Try.func35, Try.ntmps35
  have hg0 : (0 : Int) < g := by omega
  have hgn : ¬ (g : Int) = 0 := by omega
  have hq : Int.tdiv ((S : Int) + g - 1) g = (gran S g : Nat) := by
    unfold gran
    have e : (S : Int) + g - 1 = ((S + g - 1 : Nat) : Int) := by omega
    rw [e, Int.ofNat_tdiv]
  have hle := gran_le hs hg.1
  go_wp2_with fail
  go_quiet (fail)
  go_wp2
  go_ret
  exact ⟨rfl, (Fr.refl _ _).drewN _⟩
end Go.Proofs.Ytfmolbgfhchdkaa
