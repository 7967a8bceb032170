/-
  span.At.
-/
import Derived.Test.YtkammkbjkojfmaaSpW1
namespace Go.Proofs.Ytkammkbjkojfmaa
open Go.RowKit Go.Maps

/-- does an extent, taken as it is, have a place? -/
def hasP (at_ : Int) (x : Op3) : Bool := decide (x.1 ≤ at_) && decide (at_ < wrap64 (x.1 + x.2.1))
def atK (l : List Op3) (n : Int) : Int := if right l = true ∧ 0 ≤ n ∧ n < (flatE l).length then (flatE l).getD n.toNat 0 else 0
def atB (l : List Op3) (n : Int) : Bool := right l && (decide (0 ≤ n) && decide (n < (flatE l).length))
set_option maxRecDepth 100000 in
set_option maxHeartbeats 800000 in
theorem At1_calls (x : Op3) (n : Int) (b : Nat) (w : World) (hb : Blk w b [.int .i64 n] 3) : Calls Try.prog 34 #[.agg #[.int .i64 x.1, .int .i64 x.2.1, .int .i64 x.2.2], .pointer (some ⟨b, 0, none⟩)] w fun e w' => e = .returned (.bool (hasP n x)) ∧ Fr [] w w' := by
  obtain ⟨p, q, r⟩ := x
  have c := (hb.alloc (.cells #[.int .i64 p, .int .i64 q, .int .i64 r] 38)).cell
  have hlt := hb.lt
  by_cases h1 : p ≤ n
  · by_cases h2 : n < wrap64 (p + q)
    · have hr : Hid (hasP n (p, q, r) = true) := hidIt (by simp [hasP, h1, h2])
      go_enter Try.func34, Try.ntmps34
      go_wp2
      go_ret
      exact ⟨ret_bool hr.out.symm, (Fr.refl _ _).alloc _⟩
    · have hr : Hid (hasP n (p, q, r) = false) := hidIt (by simp [hasP, h1, h2])
      go_enter Try.func34, Try.ntmps34
      go_wp2
      go_ret
      exact ⟨ret_bool hr.out.symm, (Fr.refl _ _).alloc _⟩
  · have hr : Hid (hasP n (p, q, r) = false) := hidIt (by simp [hasP, h1])
    go_enter Try.func34, Try.ntmps34
    go_wp2
    go_ret
    exact ⟨ret_bool hr.out.symm, (Fr.refl _ _).alloc _⟩
def idxPost (l : List Op3) (n : Int) (w : World) (e : Ending) (w' : World) : Prop :=
  ∃ r : Int, e = .returned (.int .i64 r) ∧ ((r = -1 ∧ ∀ j, j < l.length → hasP n (l.getD j z3) = false) ∨ ∃ k : Nat, r = (k : Int) ∧ k < l.length ∧ hasP n (l.getD k z3) = true) ∧ Fr [] w w'
set_option maxRecDepth 100000 in
set_option maxHeartbeats 1600000 in
theorem IndexP_calls (v : Value) (l : List Op3) (n : Int) (b : Nat) (w : World) (hv : SlP w v l) (hb : Blk w b [.int .i64 n] 3) :
    Calls Try.prog 35 #[v, .func (.func 34) #[] #[.pointer (some ⟨b, 0, none⟩)]] w (idxPost l n w) := by
  obtain ⟨a, cap, rfl, hlc, hcm, _⟩ := hv.open
  unfold maxLen at hcm
  go_enter Try.func35, Try.ntmps35
  go_wp2_with fail
  go_loopw [5, 8] (fun _ i wr => ∃ k : Nat, k ≤ l.length ∧ i = .int .i64 k ∧ Hid (∀ j, j < k → hasP n (l.getD j z3) = false) ∧ Fr [] w wr) (fun _ i _ => l.length - (intOf i).toNat)
  case atStart => exact ⟨0, Nat.zero_le _, rfl, hidIt (fun j h => by omega), Fr.refl _ _⟩
  case round =>
    obtain ⟨k, hk, rfl, hall, hF⟩ := hrel
    by_cases hlt : k < l.length
    · obtain ⟨bb, off, rfl, hbb, c0, c1, c2⟩ := SlP.at (hv.fr0 hF) hlt
      have key := At1_calls (l.getD k z3) n b wr (hb.fr0 hF)
      have hpost : Hid (hasP n (l.getD k z3) = true → ∀ w', Fr [] w w' → idxPost l n w (.returned (.int .i64 (k : Int))) w') := hidIt (fun h w' hf => ⟨_, rfl, .inr ⟨k, rfl, hlt, h⟩, hf⟩)
      have hall' : Hid (hasP n (l.getD k z3) = false → ∀ j, j < k + 1 → hasP n (l.getD j z3) = false) := hidIt (fun h j hj => by
        by_cases h2 : j = k
        · subst h2; exact h
        · exact hall.out j (by omega))
      clear hall
      generalize hasP n (l.getD k z3) = q at *
      generalize l.getD k z3 = x at *
      obtain ⟨p1, p2, p3⟩ := x
      simp only at c0 c1 c2 key
      go_wp2_with fail
      refine key.mono ?_
      rintro e w1 ⟨rfl, hf1⟩
      have hF1 := hF.trans0 hf1
      clear key
      cases q
      · have ha := hidIt (hall'.out rfl)
        clear hall' hpost
        go_wp2
        go_roundw
        case rel => exact ⟨k + 1, by omega, by go_num, ha, hF1⟩
        case measure => simp [intOf]; omega
      · have hp := hidIt (hpost.out rfl _ hF1)
        clear hall' hpost
        go_wp2
        go_ret
        exact hp.out
    · have hke : k = l.length := by omega
      have hp : Hid (idxPost l n w (.returned (.int .i64 (-1))) wr) := hidIt ⟨_, rfl, .inl ⟨rfl, fun j hj => hall.out j (by omega)⟩, hF⟩
      clear hall hke
      go_wp2
      go_ret
      exact hp.out
theorem at_find {l : List Op3} (hr : right l = true) {n : Int} (h0 : 0 ≤ n) (h1 : n < (flatE l).length) : ∃ k, k < l.length ∧ hasP n (l.getD k z3) = true := by
  obtain ⟨hR, hle⟩ := right_ok hr
  refine Classical.byContradiction fun hno => ?_
  have hall : ∀ k, k < l.length → hasP n (l.getD k z3) = false := fun k hk => by
    rcases Bool.eq_false_or_eq_true (hasP n (l.getD k z3)) with h | h
    · exact absurd ⟨k, hk, h⟩ hno
    · exact h
  have key : ∀ k, k ≤ l.length → ((flatE (l.take k)).length : Int) ≤ n := by
    intro k
    induction k with
    | zero => intro _; simpa [flatE] using h0
    | succ k ih =>
      intro hk
      have i := ih (by omega)
      have g1 := hR.2 k (by omega)
      have g2 := flat_take_le l (k + 1)
      have g3 := hall k (by omega)
      rw [flat_step (by omega), List.length_append, List.length_replicate] at g2 ⊢
      unfold hasP at g3
      rw [IntWalk.wrap64_in _ (by omega)] at g3
      simp only [Bool.and_eq_false_iff, decide_eq_false_iff_not] at g3
      omega
  have := key l.length (Nat.le_refl _)
  rw [List.take_length] at this
  omega
theorem at_kind {l : List Op3} (hr : right l = true) {n : Int} {k : Nat} (hk : k < l.length) (h : hasP n (l.getD k z3) = true) : 0 ≤ n ∧ n < (flatE l).length ∧ (flatE l).getD n.toNat 0 = (l.getD k z3).2.2 := by
  obtain ⟨hR, hle⟩ := right_ok hr
  have g1 := hR.2 k hk
  have g2 := flat_take_le l (k + 1)
  rw [flat_step hk, List.length_append, List.length_replicate] at g2
  unfold hasP at h
  rw [IntWalk.wrap64_in _ (by omega)] at h
  simp only [Bool.and_eq_true, decide_eq_true_eq] at h
  have := hR.kind (i := k) (j := (n - (flatE (l.take k)).length).toNat) hk (by omega)
  rw [show (flatE (l.take k)).length + (n - (flatE (l.take k)).length).toNat = n.toNat by omega] at this
  exact ⟨by omega, by omega, this⟩
set_option maxRecDepth 100000 in
set_option maxHeartbeats 1600000 in
theorem sAt_calls (v : Value) (l : List Op3) (n : Int) (w : World) (hv : SlP w v l) : Calls Try.prog 13 #[v, .int .i64 n] w fun e w' => e = .returned (.tuple #[.int .i64 (atK l n), .bool (atB l n)]) ∧ Fr [] w w' := by
  have hv2 := hv
  obtain ⟨a, cap, rfl, hlc, hcm, _⟩ := hv.open
  have B3 := Blk.new w [.int .i64 n] 3
  have hFa := (Fr.refl [] w).alloc (.cells #[.int .i64 n] 3)
  have keyI := IndexP_calls _ l n _ _ (SlF.fr0 hv hFa) B3
  have keyR := fun w hv => sRight_calls (.slice a l.length cap) l w hv
  have Hno : Hid (right l = false → atK l n = 0 ∧ atB l n = false) := hidIt (fun h => by simp [atK, atB, h])
  have Hmiss : Hid (right l = true → (∀ j, j < l.length → hasP n (l.getD j z3) = false) → atK l n = 0 ∧ atB l n = false) := hidIt (fun h hall => by
    have hn : ¬ (0 ≤ n ∧ n < (flatE l).length) := fun ⟨h0, h1⟩ => by
      obtain ⟨k, hk, hp⟩ := at_find h h0 h1
      rw [hall k hk] at hp
      cases hp
    refine ⟨by unfold atK; rw [if_neg (fun h2 => hn h2.2)], ?_⟩
    unfold atB
    rw [h, Bool.true_and]
    by_cases h0 : 0 ≤ n
    · have h1 : ¬ n < (flatE l).length := fun h1 => hn ⟨h0, h1⟩
      simp [h1]
    · simp [h0])
  have Hhit : ∀ k, Hid (right l = true → k < l.length → hasP n (l.getD k z3) = true → atK l n = (l.getD k z3).2.2 ∧ atB l n = true) := fun k => hidIt (fun h hk hp => by
    obtain ⟨h0, h1, h2⟩ := at_kind h hk hp
    exact ⟨by unfold atK; rw [if_pos ⟨h, h0, h1⟩, h2], by simp [atB, h, h0, h1]⟩)
  generalize right l = rt at *
  generalize atK l n = K at *
  generalize atB l n = B at *
  unfold idxPost at keyI
  unfold maxLen at hcm
  go_enter Try.func13, Try.ntmps13
  go_wp2_with fail
  refine keyI.mono ?_
  rintro e w1 ⟨r, rfl, hr, hf1⟩
  have hF1 := hFa.trans0 hf1
  have kR := keyR w1 (SlF.fr0 hv hF1)
  clear keyI keyR hFa hf1 B3
  go_wp2_with fail
  refine kR.mono ?_
  rintro e w2 ⟨rfl, hf2⟩
  have hF2 := hF1.trans0 hf2
  clear kR hF1 hf2
  cases rt
  · obtain ⟨rfl, rfl⟩ := Hno.out rfl
    clear Hmiss Hhit Hno hr
    go_wp2
    go_ret2
    exact ⟨rfl, hF2⟩
  · rcases hr with ⟨rfl, hall⟩ | ⟨k, rfl, hk, hp⟩
    · obtain ⟨rfl, rfl⟩ := Hmiss.out rfl hall
      clear Hmiss Hhit Hno hall
      go_wp2
      go_ret2
      exact ⟨rfl, hF2⟩
    · obtain ⟨hK, rfl⟩ := (Hhit k).out rfl hk hp
      obtain ⟨bb, off, rfl, hbb, c0, c1, c2⟩ := SlP.at (hv2.fr0 hF2) hk
      clear Hmiss Hhit Hno hp
      generalize l.getD k z3 = x at *
      obtain ⟨p1, p2, p3⟩ := x
      simp only at c0 c1 c2 hK
      subst hK
      go_wp2
      go_ret2
      exact ⟨rfl, hF2⟩
end Go.Proofs.Ytkammkbjkojfmaa
