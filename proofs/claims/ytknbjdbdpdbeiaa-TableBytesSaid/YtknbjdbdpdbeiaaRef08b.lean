/-
  The reference of layer 8: kept, Groups, Same, Do.
-/
import Derived.Test.YtknbjdbdpdbeiaaRef08
import Derived.Deep.QuietTactic
import Derived.BigQuiet
namespace Go.Proofs.Ytknbjdbdpdbeiaa
open Go.RowKit Go.Maps
attribute [local go_sem high] equalSlot0 equalSlotR0

/-! ### kept -/
theorem keptG_iff (l : List Slt) (k : Nat) : keptG l k = true ↔ ∃ j, j < 16 ∧ (l.getD (16 * k + j) zS).1 ≠ 0 := by
  unfold keptG grp
  rw [List.any_eq_true]
  constructor
  · rintro ⟨s, hs, hb⟩
    obtain ⟨j, hj, rfl⟩ := List.mem_map.1 hs
    exact ⟨j, by simpa using hj, by simpa using hb⟩
  · rintro ⟨j, hj, hb⟩
    exact ⟨_, List.mem_map.2 ⟨j, by simpa using hj, rfl⟩, by simpa using hb⟩
set_option maxRecDepth 100000 in
set_option maxHeartbeats 800000 in
theorem rkept_calls (v : Value) (l : List Slt) (k : Nat) (w : World) (hs : SlS w v l) (hk : k < 16) : Calls Try.prog 35 #[v, .int .i64 (k : Int)] w fun e w' => e = .returned (.bool (keptG l k)) ∧ Fr [] w w' := by
  go_enter Try.func35, Try.ntmps35
  go_wp2_with fail
  go_loopw [5] (fun i wr => ∃ c : Nat, 16 * k ≤ c ∧ c ≤ 16 * k + 16 ∧ i = .int .i64 c ∧ (∀ j, j < c - 16 * k → (l.getD (16 * k + j) zS).1 = 0) ∧ Fr [] w wr) (fun i _ => 16 * k + 16 - (intOf i).toNat)
  case atStart => exact ⟨16 * k, Nat.le_refl _, by omega, by go_num, fun j hj => by omega, Fr.refl _ _⟩
  case round =>
    obtain ⟨c, hc1, hc2, rfl, hz, hF⟩ := hrel
    have Hz := hidIt hz
    clear hz
    by_cases hlt : c < 16 * k + 16
    · go_wp2_with fail
      refine (rGet_calls v l _ _ (hs.fr0 hF)).mono ?_
      rintro e w1 ⟨rfl, hf⟩
      rw [tget_nat]
      replace hF := hF.trans0 hf
      have e1 : 16 * k + (c - 16 * k) = c := by omega
      generalize hg : l.getD c zS = s at *
      have Hg := hidIt hg
      clear hg hf
      by_cases h0 : (s.1 != 0) = true
      · have Hk : Hid (keptG l k = true) := hidIt ((keptG_iff l k).2 ⟨c - 16 * k, by omega, by rw [e1, Hg.out]; simpa using h0⟩)
        clear e1
        go_wp2_with (refine wpList_field 32 0 rfl _ rfl _ rfl (fieldKindR _ _ _) ?_)
        go_ret
        exact ⟨ret_bool Hk.out.symm, hF⟩
      · have h0' : (s.1 != 0) = false := by simpa using h0
        clear e1 h0
        go_wp2_with (refine wpList_field 32 0 rfl _ rfl _ rfl (fieldKindR _ _ _) ?_)
        go_roundw
        case rel =>
          refine ⟨c + 1, by omega, by omega, by go_num, fun j hj => ?_, hF⟩
          by_cases hj2 : j < c - 16 * k
          · exact Hz.out j hj2
          · have : 16 * k + j = c := by omega
            rw [this, Hg.out]; simpa using h0'
        case measure => simp [intOf]; omega
    · have Hk : Hid (keptG l k = false) := hidIt (by
        cases hkk : keptG l k with
        | false => rfl
        | true =>
          obtain ⟨j, hj, hne⟩ := (keptG_iff l k).1 hkk
          exact absurd (Hz.out j (by omega)) hne)
      go_wp2
      go_ret
      exact ⟨ret_bool Hk.out.symm, hF⟩
/-! ### Groups -/
def groupsTo (l : List Slt) (k : Nat) : Nat := ((List.range k).filter (keptG l)).length
theorem groupsTo_succ (l : List Slt) (k : Nat) : groupsTo l (k + 1) = groupsTo l k + if keptG l k = true then 1 else 0 := by
  unfold groupsTo
  rw [List.range_succ, List.filter_append]
  by_cases h : keptG l k = true
  · simp [h]
  · simp [h]
theorem groupsTo_le (l : List Slt) (k : Nat) : groupsTo l k ≤ k := by
  unfold groupsTo
  refine Nat.le_trans (List.length_filter_le _ _) ?_
  simp
set_option maxRecDepth 100000 in
set_option maxHeartbeats 800000 in
theorem rGroups_calls (v : Value) (l : List Slt) (w : World) (hs : SlS w v l) : Calls Try.prog 18 #[v] w fun e w' => e = .returned (.int .i64 (groups l)) ∧ Fr [] w w' := by
  go_enter Try.func18, Try.ntmps18
  go_wp2_with fail
  go_loopw [3, 4] (fun n i wr => ∃ k : Nat, k ≤ 16 ∧ i = .int .i64 k ∧ n = .int .i64 (groupsTo l k) ∧ Fr [] w wr) (fun _ i _ => 16 - (intOf i).toNat)
  case atStart => exact ⟨0, by omega, rfl, rfl, Fr.refl _ _⟩
  case round =>
    obtain ⟨k, hk, rfl, rfl, hF⟩ := hrel
    have hle := groupsTo_le l k
    by_cases hlt : k < 16
    · have Hs := hidIt (groupsTo_succ l k)
      go_wp2_with fail
      refine (rkept_calls v l k _ (hs.fr0 hF) hlt).mono ?_
      rintro e w1 ⟨rfl, hf⟩
      replace hF := hF.trans0 hf
      clear hf
      by_cases hkk : keptG l k = true
      · have Hk := hidIt hkk
        rw [hkk]
        clear hkk
        go_wp2
        go_roundw
        case rel => exact ⟨k + 1, by omega, by go_num, by rw [Hs.out, if_pos Hk.out]; go_num, hF⟩
        case measure => simp [intOf]; omega
      · have hkk' : keptG l k = false := by simpa using hkk
        have Hk := hidIt hkk
        rw [hkk']
        clear hkk hkk'
        go_wp2
        go_roundw
        case rel => exact ⟨k + 1, by omega, by go_num, by rw [Hs.out, if_neg Hk.out]; go_num, hF⟩
        case measure => simp [intOf]; omega
    · have Hk : Hid (groupsTo l k = groups l) := hidIt (by have : k = 16 := by omega
                                                           rw [this]; rfl)
      go_wp2
      go_ret
      exact ⟨ret_int (by rw [Hk.out]), hF⟩
/-! ### Same -/
set_option maxRecDepth 100000 in
set_option maxHeartbeats 800000 in
theorem Same_calls (v u : Value) (l : List Slt) (w : World) (hv : SlS w v l) (hu : SlS w u l) : Calls Try.prog 15 #[v, u] w fun e w' => e = .returned (.bool true) ∧ Fr [] w w' := by
  obtain ⟨a, cap, rfl, hlc, hcm, _⟩ := hv.open
  obtain ⟨a', cap', rfl, _, _, _⟩ := hu.open
  unfold maxLen at hcm
  go_enter Try.func15, Try.ntmps15
  go_wp2
  go_loopw [5] (fun i wr => ∃ k : Nat, k ≤ l.length ∧ i = .int .i64 k ∧ Fr [] w wr) (fun i _ => l.length - (intOf i).toNat)
  case atStart => exact ⟨0, Nat.zero_le _, rfl, Fr.refl _ _⟩
  case round =>
    obtain ⟨k, hk, rfl, hF⟩ := hrel
    by_cases hlt : k < l.length
    · obtain ⟨b, off, rfl, hb, c0, c1, c2⟩ := SlS.at (hv.fr0 hF) hlt
      obtain ⟨b', off', rfl, hb', d0, d1, d2⟩ := SlS.at (hu.fr0 hF) hlt
      generalize l.getD k zS = s at *
      have hlt' : (k : Int) < (l.length : Int) := by omega
      have hk0 : (0 : Int) ≤ k := by omega
      have hss := sEq_self s
      go_wp2_with fail
      go_quiet (fail)
      go_wp2
      exact ⟨⟨k + 1, by omega, by go_num, hF.drewN _⟩, by simp [intOf]; omega⟩
    · go_wp2
      go_ret
      exact ⟨rfl, hF⟩
/-! ### Do -/
set_option maxRecDepth 100000 in
set_option maxHeartbeats 1600000 in
theorem rDo_calls (v : Value) (l : List Slt) (q c k h : Int) (o : Bool) (w : World) (hs : SlS w v l) (hl : l.length ≤ 256) :
    Calls Try.prog 13 #[v, .agg #[.int .i64 q, .int .i64 c, .int .i64 k, .int .i64 h, .bool o]] w (rResizePost w (tDo l (q, c, k, h, o))) := by
  by_cases h0 : q = 0
  · subst h0
    have Hd : Hid (tDo l (0, c, k, h, o) = ((tSet l c (k, h, o)).1, [(tSet l c (k, h, o)).2.1], (tSet l c (k, h, o)).2.2)) := rfl
    go_enter Try.func13, Try.ntmps13
    go_wp2_with fail
    refine (rSet_calls v l c k h o _ (hs.fr0 ((Fr.refl _ _).alloc _)) hl).mono ?_
    rintro e w1 ⟨u, rfl, hsu, hf⟩
    have hF : Fr [] w w1 := ((Fr.refl _ w).alloc _).trans0 hf
    clear hf
    generalize tSet l c (k, h, o) = r at *
    obtain ⟨r1, r2, r3⟩ := r
    simp only at *
    go_wp2
    go_region
    all_goals go_wp2
    all_goals go_ret3
    all_goals rw [Hd.out]
    all_goals refine ⟨u, .slice (some ⟨w1.heap.size + 1, 0, none⟩) 1 1, rfl, hsu.fr0 (((Fr.refl _ _).alloc _).alloc _).drew, SlF.one (t := 32) (Blk.new' (by simp) (slotC r2) _).drew, ((hF.alloc _).alloc _).drew⟩
  · by_cases h1 : q = 1
    · subst h1
      have Hd : Hid (tDo l (1, c, k, h, o) = tResize l c) := rfl
      go_enter Try.func13, Try.ntmps13
      go_wp2_with fail
      refine (rResize_calls v l c _ (hs.fr0 ((Fr.refl _ _).alloc _)) hl).mono ?_
      rintro e w1 ⟨u, u2, rfl, hsu, hsu2, hf⟩
      have hF : Fr [] w w1 := ((Fr.refl _ w).alloc _).trans0 hf
      clear hf
      go_wp2
      go_ret3
      rw [Hd.out]
      exact ⟨u, u2, rfl, hsu, hsu2, hF⟩
    · have Hd : Hid (tDo l (q, c, k, h, o) = (l, [], 0)) := hidIt (by unfold tDo; rw [if_neg h0, if_neg h1])
      have b0 : (q == 0) = false := by simpa using h0
      have b1 : (q == 1) = false := by simpa using h1
      clear h0 h1
      go_enter Try.func13, Try.ntmps13
      go_wp2
      go_ret3
      rw [Hd.out]
      exact ⟨v, _, rfl, hs.fr0 ((Fr.refl _ _).alloc _), Sl.nil _, (Fr.refl _ _).alloc _⟩
end Go.Proofs.Ytknbjdbdpdbeiaa
