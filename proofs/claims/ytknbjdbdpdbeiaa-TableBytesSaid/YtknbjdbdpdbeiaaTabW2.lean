/-
  Package table: Set, Resize.
-/
import Derived.Test.YtknbjdbdpdbeiaaTabW
namespace Go.Proofs.Ytknbjdbdpdbeiaa
open Go.RowKit Go.Maps
attribute [local go_sem] mapAt_alloc mapAt_setCell mapAt_drew mapAt_drewN
attribute [local go_sem high] equalSlot0 equalSlotR0

theorem tSet_yes {l : List Slt} {c : Int} {s : Slt} (h0 : 0 ≤ c) (h1 : c < l.length) (h2 : rightS s = true) : tSet l c s = (l.set c.toNat s, tget l c, 0) := by
  unfold tSet; rw [if_pos ⟨h0, h1, h2⟩]
theorem tSet_no {l : List Slt} {c : Int} {s : Slt} (h : ¬ (0 ≤ c ∧ c < l.length ∧ rightS s = true)) : tSet l c s = (l, zS, 1) := by
  unfold tSet; rw [if_neg h]
/-- what Set answers -/
def SetPost (w : World) (tb mb : Nat) (r : List Slt × Slt × Int) (e : Ending) (w' : World) : Prop :=
  e = .returned (.tuple #[slotV r.2.1, .int .i64 r.2.2]) ∧ TabW w' tb mb r.1 ∧ Fr [mb] w w'
set_option maxHeartbeats 800000 in
theorem Set_yes (tb mb : Nat) (l : List Slt) (c : Nat) (k h : Int) (o : Bool) (w : World) (hT : TabW w tb mb l) (h1 : c < l.length) (h2 : rightS (k, h, o) = true) :
    Calls Try.prog 21 #[.pointer (some ⟨tb, 0, none⟩), .int .i64 (c : Int), .agg #[.int .i64 k, .int .i64 h, .bool o]] w (SetPost w tb mb (l.set c (k, h, o), tget l c, 0)) := by
  have c0 : w.cell? ⟨tb, 0, none⟩ = some (.int .i64 l.length) := hT.blk.cell 0
  have hlt := hT.lt.1
  have hlm := hT.lt.2
  have hlen := hT.len
  go_enter Try.func21, Try.ntmps21
  go_wp2_with fail
  refine (Right_calls _ _ _ _).mono ?_
  rintro e w1 ⟨rfl, hf⟩
  rw [h2]
  have hF : Fr [] w w1 := (((Fr.refl _ w).alloc _).alloc _).trans0 hf
  replace hT := hT.fr0 hF
  have B5 : Blk w1 w.heap.size [.int .i64 k, .int .i64 h, .bool o] 43 := ((Blk.new w [_, _, _] _).alloc _).fr0 hf
  have B6 : Blk w1 (w.heap.size + 1) [.int .i64 0, .int .i64 0, .bool false] 43 := (Blk.new' (by simp) [_, _, _] _).fr0 hf
  clear hf
  go_wp2_with fail
  refine (Get_calls tb mb l _ _ hT).mono ?_
  rintro e w2 ⟨rfl, hf⟩
  replace hF := hF.trans0 hf
  replace hT := hT.fr0 hf
  replace B5 := B5.fr0 hf
  replace B6 := B6.fr0 hf
  have c5 := B5.cell
  have l5 := B5.lt
  clear hf
  go_wp2_with fail
  have B8 : Blk (w2.alloc (.cells #[.int .i64 (tget l c).1, .int .i64 (tget l c).2.1, .bool (tget l c).2.2] 43)) w2.heap.size (slotC (tget l c)) 43 := Blk.new _ _ _
  refine (put_calls tb mb l c k h o _ (hT.fr0 ((Fr.refl _ _).alloc _)) h1 h2).mono ?_
  rintro e w3 ⟨⟨v, rfl⟩, hT3, hf⟩
  replace hF : Fr [mb] w w3 := (hF.alloc _).weak.trans' hf
  have hlt2 : w.heap.size + 1 < w2.heap.size := B6.lt
  replace B6 := (B6.alloc _).fr hf (by simp; omega)
  replace B8 := B8.fr hf (by simp; omega)
  have c8 := B8.cell
  have c6 := B6.cell
  have f6 := B6.frozen
  clear hf c5 B5
  go_wp2_with fail
  have hfs := Fr.set3 w3 (w.heap.size + 1) (.int .i64 (tget l c).1) (.int .i64 (tget l c).2.1) (.bool (tget l c).2.2)
  exact bodyPost_ret (v := .tuple #[slotV (tget l c), .int .i64 0]) (by simp [results, Try.results21, go_sem, c6]) rfl ⟨rfl, hT3.fr hfs (by simp; omega) (by simp; omega), hF.trans1 hfs (by omega)⟩
set_option maxHeartbeats 800000 in
theorem Set_no (tb mb : Nat) (l : List Slt) (c k h : Int) (o : Bool) (w : World) (hT : TabW w tb mb l) (hn : ¬ (0 ≤ c ∧ c < l.length ∧ rightS (k, h, o) = true)) :
    Calls Try.prog 21 #[.pointer (some ⟨tb, 0, none⟩), .int .i64 c, .agg #[.int .i64 k, .int .i64 h, .bool o]] w (SetPost w tb mb (l, zS, 1)) := by
  have c0 : w.cell? ⟨tb, 0, none⟩ = some (.int .i64 l.length) := hT.blk.cell 0
  have hlt := hT.lt.1
  have hlm := hT.lt.2
  by_cases h0 : c < 0
  · clear hn
    go_enter Try.func21, Try.ntmps21
    go_wp2
    exact bodyPost_ret (v := .tuple #[slotV zS, .int .i64 1]) (by simp [results, Try.results21, go_sem, zS]) rfl ⟨rfl, hT.fr0 (((Fr.refl _ _).alloc _).alloc _), (((Fr.refl _ _).alloc _).alloc _)⟩
  · by_cases h1 : (l.length : Int) ≤ c
    · clear hn
      have h0' : 0 ≤ c := by omega
      clear h0
      go_enter Try.func21, Try.ntmps21
      go_wp2
      exact bodyPost_ret (v := .tuple #[slotV zS, .int .i64 1]) (by simp [results, Try.results21, go_sem, zS]) rfl ⟨rfl, hT.fr0 (((Fr.refl _ _).alloc _).alloc _), (((Fr.refl _ _).alloc _).alloc _)⟩
    · have h2 : rightS (k, h, o) = false := by
        cases hr : rightS (k, h, o) with
        | false => rfl
        | true => exact absurd ⟨by omega, by omega, hr⟩ hn
      have h0' : 0 ≤ c := by omega
      have h1' : c < l.length := by omega
      clear h0 h1 hn
      go_enter Try.func21, Try.ntmps21
      go_wp2_with fail
      refine (Right_calls _ _ _ _).mono ?_
      rintro e w1 ⟨rfl, hf⟩
      rw [h2]
      have hF : Fr [] w w1 := (((Fr.refl _ w).alloc _).alloc _).trans0 hf
      replace hT := hT.fr0 hF
      have B6 : Blk w1 (w.heap.size + 1) [.int .i64 0, .int .i64 0, .bool false] 43 := (Blk.new' (by simp) [_, _, _] _).fr0 hf
      have c6 := B6.cell
      have l6 := B6.lt
      have f6 := B6.frozen
      clear hf
      go_wp2
      have hfs := Fr.set3 w1 (w.heap.size + 1) (.int .i64 0) (.int .i64 0) (.bool false)
      exact bodyPost_ret (v := .tuple #[slotV zS, .int .i64 1]) (by simp [results, Try.results21, go_sem, c6, zS]) rfl ⟨rfl, hT.fr hfs (by simp; omega) (by simp; omega), hF.weak.trans1 hfs (by omega)⟩
theorem Set_calls (tb mb : Nat) (l : List Slt) (c k h : Int) (o : Bool) (w : World) (hT : TabW w tb mb l) :
    Calls Try.prog 21 #[.pointer (some ⟨tb, 0, none⟩), .int .i64 c, .agg #[.int .i64 k, .int .i64 h, .bool o]] w (SetPost w tb mb (tSet l c (k, h, o))) := by
  by_cases hc : 0 ≤ c ∧ c < l.length ∧ rightS (k, h, o) = true
  · rw [tSet_yes hc.1 hc.2.1 hc.2.2]
    obtain ⟨n, rfl⟩ := Int.eq_ofNat_of_zero_le hc.1
    exact Set_yes tb mb l n k h o w hT (by omega) hc.2.2
  · rw [tSet_no hc]
    exact Set_no tb mb l c k h o w hT hc
end Go.Proofs.Ytknbjdbdpdbeiaa
