/-
  ref19.Refs, check.Clean, check.counted.
-/
import Derived.Test.YtmbbmombhkaeoaaChkD
namespace Go.Proofs.Ytmbbmombhkaeoaa
open Go.RowKit
attribute [local go_sem high] equalSlot0 equalSlotR0

/-- how many of these slots have cluster h -/
def rc1 (m h : Int) (l : List Slt) : Nat := (l.filter fun s => hasS s m && decide (s.2.1 = h)).length
def rc (m h : Int) (ls : List (List Slt)) : Nat := rc1 m h ls.flatten
theorem rc1_le (m h : Int) (l : List Slt) : rc1 m h l ≤ l.length := List.length_filter_le _ _
theorem rc1_append (m h : Int) (l l' : List Slt) : rc1 m h (l ++ l') = rc1 m h l + rc1 m h l' := by simp [rc1]
theorem take_succ_getD {α : Type} {l : List α} (d : α) {k : Nat} (h : k < l.length) : l.take (k + 1) = l.take k ++ [l.getD k d] := by
  have hg : l[k] = l.getD k d := by rw [List.getD_eq_getElem?_getD, List.getElem?_eq_getElem h]; rfl
  rw [List.take_succ_eq_append_getElem h, hg]
theorem rc1_step {m h : Int} {l : List Slt} {j : Nat} (hj : j < l.length) : rc1 m h (l.take (j + 1)) = rc1 m h (l.take j) + if (hasS (l.getD j zS) m && decide ((l.getD j zS).2.1 = h)) = true then 1 else 0 := by
  rw [take_succ_getD zS hj, rc1_append]
  congr 1
  generalize l.getD j zS = s
  unfold rc1
  by_cases hp : (hasS s m && decide (s.2.1 = h)) = true
  · rw [if_pos hp]
    simp only [List.filter_cons, List.filter_nil, hp, if_true]
    rfl
  · rw [if_neg hp]
    simp only [List.filter_cons, List.filter_nil, hp]
    rfl
theorem rc_step {m h : Int} {ls : List (List Slt)} {k : Nat} (hk : k < ls.length) : rc m h (ls.take (k + 1)) = rc m h (ls.take k) + rc1 m h (ls.getD k []) := by
  rw [take_succ_getD [] hk]
  unfold rc
  rw [List.flatten_append, rc1_append]
  simp
theorem flatten_len (ls : List (List Slt)) : ls.flatten.length ≤ tot ls := by
  rw [List.length_flatten]
  unfold tot
  induction ls with
  | nil => exact Nat.le_refl _
  | cons l ls ih => simp only [List.map_cons, List.sum_cons]; omega
theorem rc_le (m h : Int) (ls : List (List Slt)) : rc m h ls ≤ tot ls := Nat.le_trans (rc1_le m h _) (flatten_len ls)
set_option maxRecDepth 100000 in
set_option maxHeartbeats 1600000 in
theorem Refs_calls (m h : Int) (u : Value) (ls : List (List Slt)) (w : World) (hu : SlR w u ls) (ht : tot ls ≤ 1048576) :
    Calls Try.prog 27 #[.int .i64 m, u, .int .i64 h] w fun e w' => e = .returned (.int .i64 (rc m h ls)) ∧ Fr [] w w' := by
  obtain ⟨a', cap', rfl, hlc', hcm'⟩ := hu.open
  unfold maxLen at hcm'
  have htl := tot_len ls
  go_enter Try.func27, Try.ntmps27
  go_wp2
  go_loopw [7, 8] (fun c i wr => ∃ k : Nat, k ≤ ls.length ∧ c = .int .i64 (rc m h (ls.take k) : Nat) ∧ i = .int .i64 k ∧ Fr [] w wr) (fun _ i _ => ls.length - (intOf i).toNat)
  case atStart => exact ⟨0, Nat.zero_le _, rfl, rfl, Fr.refl _ _⟩
  case round =>
    obtain ⟨k, hk, rfl, rfl, hF⟩ := hrel
    by_cases hlt : k < ls.length
    · obtain ⟨b, off, a2, cap2, rfl, hb, c0, hs, hm2⟩ := SlR.at (hu.fr0 hF) hlt
      have Hst := hidIt (rc_step (m := m) (h := h) hlt)
      have hml := tot_at hlt
      have hrl := rc_le m h (ls.take k)
      have htk := tot_take_le ls k
      generalize rc m h (ls.take k) = R at *
      generalize ls.getD k [] = l at *
      have hR : R ≤ 1048576 := by omega
      have hL : l.length ≤ 1048576 := by omega
      generalize wr = wo at *
      go_wp2
      go_loopw [7, 9] (fun c j w2 => ∃ i : Nat, i ≤ l.length ∧ c = .int .i64 ((R + rc1 m h (l.take i) : Nat) : Int) ∧ j = .int .i64 i ∧ Fr [] wo w2) (fun _ j _ => l.length - (intOf j).toNat)
      case atStart => exact ⟨0, Nat.zero_le _, by simp [rc1], rfl, Fr.refl _ _⟩
      case round =>
        obtain ⟨j, hj, rfl, rfl, hF2⟩ := hrel
        have c0' := (World.cell?_of_block (hF2.block b hb (by simp))).trans c0
        by_cases hlj : j < l.length
        · obtain ⟨b3, off3, rfl, hb3, d0, d1, d2⟩ := SlS.at (hs.fr0 hF2) hlj
          have Hsj := hidIt (rc1_step (m := m) (h := h) hlj)
          have hr1 := rc1_le m h (l.take j)
          have hr2 : (l.take j).length ≤ l.length := by simp; omega
          generalize rc1 m h (l.take j) = T at *
          have hs3 := hs.fr0 hF2
          clear hs
          generalize l.getD j zS = s at *
          obtain ⟨s0, s1, s2⟩ := s
          simp only at d0 d1 d2 Hsj
          go_wp2_with fail
          refine (rHas_calls s0 s1 s2 m _).mono ?_
          rintro e w3 ⟨rfl, hf⟩
          have c0'' := (World.cell?_of_block (hf.block b (Nat.lt_of_lt_of_le hb hF2.size) (by simp))).trans c0'
          have e1 := (World.cell?_of_block (hf.block b3 hb3 (by simp))).trans d1
          replace hF2 := hF2.trans0 hf
          clear c0' d0 d1 d2 hf hs3
          generalize hasS (s0, s1, s2) m = q at *
          cases q
          · have Hsj' : Hid (rc1 m h (l.take (j + 1)) = T) := hidIt (by rw [Hsj.out]; simp)
            go_wp2
            go_roundw
            case rel => exact ⟨j + 1, by omega, by rw [Hsj'.out]; go_num, by go_num, hF2⟩
            case measure => simp [intOf]; omega
          · by_cases hs1 : s1 = h
            · have Hsj' : Hid (rc1 m h (l.take (j + 1)) = T + 1) := hidIt (by rw [Hsj.out]; simp [hs1])
              go_wp2
              go_roundw
              case rel => exact ⟨j + 1, by omega, by rw [Hsj'.out]; go_num, by go_num, hF2⟩
              case measure => simp [intOf]; omega
            · have Hsj' : Hid (rc1 m h (l.take (j + 1)) = T) := hidIt (by rw [Hsj.out]; simp [hs1])
              go_wp2
              go_roundw
              case rel => exact ⟨j + 1, by omega, by rw [Hsj'.out]; go_num, by go_num, hF2⟩
              case measure => simp [intOf]; omega
        · have Htl : Hid (l.take j = l) := hidIt (List.take_of_length_le (by omega))
          rw [Htl.out]
          have hr1 := rc1_le m h l
          generalize rc1 m h l = T at *
          go_wp2
          go_roundw
          case rel => exact ⟨k + 1, by omega, by rw [Hst.out], by go_num, hF.trans0 hF2⟩
          case measure => simp [intOf]; omega
    · have Ht : Hid (ls.take k = ls) := hidIt (List.take_of_length_le (by omega))
      rw [Ht.out]
      obtain ⟨R, HR⟩ : ∃ R, Hid (rc m h ls = R) := ⟨_, hidIt rfl⟩
      rw [HR.out]
      go_wp2
      go_ret
      exact ⟨ret_int (by rw [HR.out]), hF⟩
end Go.Proofs.Ytmbbmombhkaeoaa
