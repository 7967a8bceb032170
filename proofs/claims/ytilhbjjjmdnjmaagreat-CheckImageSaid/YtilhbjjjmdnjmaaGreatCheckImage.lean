/-
  law19.CheckImage: the walk.
-/
import Derived.Test.YtilhbjjjmdnjmaaGreatM37
import Derived.Test.YtilhbjjjmdnjmaaGreatChkIm
import Derived.Test.YtilhbjjjmdnjmaaGreatM54
namespace Go.Proofs.YtilhbjjjmdnjmaaGreat
open Go.RowKit Go.Maps
attribute [local go_sem] mapAt_alloc mapAt_setCell mapAt_drew mapAt_drewN cells_str store_str eql_str neq_str guard_str len_str eql_func_nil neq_func_nil neq_nil_nil
set_option maxRecDepth 100000 in
set_option maxHeartbeats 3200000 in
theorem CheckImage_any (w : World) (a1 a2 a3 : Int) (v : Value) (l : List OpI) (hv : OpsW w w.heap.size v l) :
    Calls Tryz.prog 4 #[.agg #[.int .i64 a1, .int .i64 a2, .int .i64 a3], v] w fun e w' => e = .returned (.bool true) ∧ Fr [] w w' := by
  obtain ⟨a, cap, rfl, hlc, hcm⟩ := hv.open
  unfold maxLen at hcm
  have hf0 := (Fr.refl [] w).alloc (.cells #[.int .i64 a1, .int .i64 a2, .int .i64 a3] 50)
  have B0 := Blk.new w [.int .i64 a1, .int .i64 a2, .int .i64 a3] 50
  have hz := hf0.size
  replace hv := hv.fr0 hf0
  have c0 := B0.cell
  by_cases hok : okSeat a1 a2 a3
  case neg =>
    go_enter Tryz.func4, Tryz.ntmps4
    go_wp2_with fail
    refine (iNew_no a1 a2 a3 _ hok).mono ?_
    rintro e w1 ⟨rfl, hf1⟩
    go_wp2_with fail
    refine (alive_calls _).mono ?_
    rintro e w9 ⟨rfl, hf9⟩
    go_wp2
    go_ret
    exact ⟨rfl, (hf0.trans0 hf1).trans0 hf9⟩
  obtain ⟨B, rfl⟩ : ∃ B : Nat, a1 = B := ⟨a1.toNat, by unfold okSeat at hok; omega⟩
  obtain ⟨n, rfl⟩ : ∃ n : Nat, a2 = n := ⟨a2.toNat, by unfold okSeat at hok; omega⟩
  obtain ⟨r, rfl⟩ : ∃ r : Nat, a3 = r := ⟨a3.toNat, by unfold okSeat at hok; omega⟩
  have hB3 : B ≤ 3 := by unfold okSeat at hok; omega
  generalize hw1 : (w.alloc (.cells #[.int .i64 (B : Int), .int .i64 (n : Int), .int .i64 (r : Int)] 50)) = w1 at *
  go_enter Tryz.func4, Tryz.ntmps4
  go_wp2_with fail
  try rw [hw1]
  refine (iNew_yes B n r _ hok).mono ?_
  intro e w2 hp
  obtain ⟨ib, p, rfl, hst⟩ := new_St hp
  have hL := LawI.made hok hst
  clear hp hst hok hw1
  replace c0 := (B0.fr0 hL.st.fr).cell
  by_cases h100 : (l.length : Int) ≤ 100
  case neg =>
    go_wp2_with fail
    refine (alive_calls _).mono ?_
    rintro e w9 ⟨rfl, hf9⟩
    go_wp2
    go_ret
    exact ⟨rfl, (hf0.trans0 hL.st.fr).trans0 hf9⟩
  go_wp2_with fail
  go_loopw [8, 33] (fun _ i wr => ∃ (k : Nat) (q : Pl) (R : Img), k ≤ l.length ∧ i = .int .i64 k ∧ LawI w1 wr ib q R B r) (fun _ i _ => l.length - (intOf i).toNat)
  case atStart => exact ⟨0, _, _, Nat.zero_le _, rfl, hL⟩
  clear hL c0
  obtain ⟨k, q, R, hk, rfl, hL⟩ := hrel
  by_cases hlt : k < l.length
  case pos =>
    obtain ⟨b, off, vb, rfl, hb, hbn, hbv, d0, d1, d2, d3, d4⟩ := (hv.fr0 hL.st.fr).at hlt
    generalize l.getD k zOI = o at *
    have hL2 := hL.keep ((Fr.refl [] wr).alloc (.cells #[.int .i64 o.k, .int .i64 o.x, .int .i64 o.lo, vb, strL o.nm] 42))
    have hbv2 := hbv.fr ((Fr.refl [] wr).alloc (.cells #[.int .i64 o.k, .int .i64 o.x, .int .i64 o.lo, vb, strL o.nm] 42)) (fun _ h => by cases h)
    have B9 := (Blk.new wr [.int .i64 o.k, .int .i64 o.x, .int .i64 o.lo, vb, strL o.nm] 42).cell
    have hfar : 0 < o.b.length → far q vb := fun hp => hL2.st.far fun k hk => Nat.lt_of_lt_of_le (hbv2.old hp k hk) hz
    obtain ⟨vb1, vc1, rfl, _⟩ := hbv.sl.open
    obtain ⟨ok, ox, olo, ob, onm⟩ := o
    have hvb2 := hbv2
    clear hbv hbv2 hL
    by_cases e1 : ok = 1
    case pos =>
      subst e1
      have kA := iWrite_calls ox (.slice vb1 ob.length vc1) ob .nilFunc [] _ hL2.st.img hL2.ok hvb2.sl hfar (BelW.nil _ _)
      have kK := write_K hL2.ok ox ob [] (fun _ => False)
      clear hfar
      go_wp2_with fail
      refine kA.mono ?_
      intro e w3 hp
      obtain ⟨q3, rfl, hL3, _⟩ := hL2.res hp kK
      clear hp kA kK hL2 hvb2
      have kI := ChkImage_calls _ hL3.st.img hL3.ok
      go_wp2_with fail
      refine kI.mono ?_
      rintro e w4 ⟨v0, v1, rfl, hs0, hs1, hf4⟩
      have hL4 := hL3.keep hf4
      clear kI
      go_wp2_with fail
      refine (Clean_calls _ _ _ _ [] [] [] [] _ hs0 hs1 (Sl.nil _) (Sl.nil _) (by simp) (by simp) (by simp) (by simp)).mono ?_
      rintro e w5 ⟨rfl, hf5⟩
      have hL5 := hL4.keep hf5
      clear hs0 hs1 hL4
      go_wp2
      go_roundw
      case rel => exact ⟨k + 1, q3, _, by omega, by go_num, hL5⟩
      case measure => simp [intOf]; omega
    by_cases e2 : ok = 2
    case pos =>
      subst e2
      have kA := iZero_calls ox olo .nilFunc [] _ hL2.st.img hL2.ok (BelW.nil _ _)
      have kK := zero_K hL2.ok ox olo [] (fun _ => False)
      clear hfar
      go_wp2_with fail
      refine kA.mono ?_
      intro e w3 hp
      obtain ⟨q3, rfl, hL3, _⟩ := hL2.res hp kK
      clear hp kA kK hL2 hvb2
      have kI := ChkImage_calls _ hL3.st.img hL3.ok
      go_wp2_with fail
      refine kI.mono ?_
      rintro e w4 ⟨v0, v1, rfl, hs0, hs1, hf4⟩
      have hL4 := hL3.keep hf4
      clear kI
      go_wp2_with fail
      refine (Clean_calls _ _ _ _ [] [] [] [] _ hs0 hs1 (Sl.nil _) (Sl.nil _) (by simp) (by simp) (by simp) (by simp)).mono ?_
      rintro e w5 ⟨rfl, hf5⟩
      have hL5 := hL4.keep hf5
      clear hs0 hs1 hL4
      go_wp2
      go_roundw
      case rel => exact ⟨k + 1, q3, _, by omega, by go_num, hL5⟩
      case measure => simp [intOf]; omega
    by_cases e3 : ok = 3
    case pos =>
      subst e3
      have kA := iDiscard_calls ox olo _ hL2.st.img hL2.ok
      have kK := discard_K hL2.ok ox olo (fun _ => False)
      clear hfar
      go_wp2_with fail
      refine kA.mono ?_
      intro e w3 hp
      obtain ⟨q3, rfl, hL3, _⟩ := hL2.res hp kK
      clear hp kA kK hL2 hvb2
      have kI := ChkImage_calls _ hL3.st.img hL3.ok
      go_wp2_with fail
      refine kI.mono ?_
      rintro e w4 ⟨v0, v1, rfl, hs0, hs1, hf4⟩
      have hL4 := hL3.keep hf4
      clear kI
      go_wp2_with fail
      refine (Clean_calls _ _ _ _ [] [] [] [] _ hs0 hs1 (Sl.nil _) (Sl.nil _) (by simp) (by simp) (by simp) (by simp)).mono ?_
      rintro e w5 ⟨rfl, hf5⟩
      have hL5 := hL4.keep hf5
      clear hs0 hs1 hL4
      go_wp2
      go_roundw
      case rel => exact ⟨k + 1, q3, _, by omega, by go_num, hL5⟩
      case measure => simp [intOf]; omega
    by_cases e4 : ok = 4
    case pos =>
      subst e4
      have kA := iResize_calls olo _ hL2.st.img hL2.ok
      have kK := resize_K hL2.ok olo (fun _ => False)
      clear hfar
      go_wp2_with fail
      refine kA.mono ?_
      intro e w3 hp
      obtain ⟨q3, rfl, hL3, _⟩ := hL2.res hp kK
      clear hp kA kK hL2 hvb2
      have kI := ChkImage_calls _ hL3.st.img hL3.ok
      go_wp2_with fail
      refine kI.mono ?_
      rintro e w4 ⟨v0, v1, rfl, hs0, hs1, hf4⟩
      have hL4 := hL3.keep hf4
      clear kI
      go_wp2_with fail
      refine (Clean_calls _ _ _ _ [] [] [] [] _ hs0 hs1 (Sl.nil _) (Sl.nil _) (by simp) (by simp) (by simp) (by simp)).mono ?_
      rintro e w5 ⟨rfl, hf5⟩
      have hL5 := hL4.keep hf5
      clear hs0 hs1 hL4
      go_wp2
      go_roundw
      case rel => exact ⟨k + 1, q3, _, by omega, by go_num, hL5⟩
      case measure => simp [intOf]; omega
    by_cases e5 : ok = 5
    case pos =>
      subst e5
      have kA := iSnap_calls onm _ hL2.st.img hL2.ok
      have kK := snap_K hL2.ok onm (fun _ => False)
      clear hfar
      go_wp2_with fail
      refine kA.mono ?_
      intro e w3 hp
      obtain ⟨q3, rfl, hL3, _⟩ := hL2.res hp kK
      clear hp kA kK hL2 hvb2
      have kI := ChkImage_calls _ hL3.st.img hL3.ok
      go_wp2_with fail
      refine kI.mono ?_
      rintro e w4 ⟨v0, v1, rfl, hs0, hs1, hf4⟩
      have hL4 := hL3.keep hf4
      clear kI
      go_wp2_with fail
      refine (Clean_calls _ _ _ _ [] [] [] [] _ hs0 hs1 (Sl.nil _) (Sl.nil _) (by simp) (by simp) (by simp) (by simp)).mono ?_
      rintro e w5 ⟨rfl, hf5⟩
      have hL5 := hL4.keep hf5
      clear hs0 hs1 hL4
      go_wp2
      go_roundw
      case rel => exact ⟨k + 1, q3, _, by omega, by go_num, hL5⟩
      case measure => simp [intOf]; omega
    by_cases e6 : ok = 6
    case pos =>
      subst e6
      have kA := iApply_calls onm _ hL2.st.img hL2.ok
      have kK := apply_K hL2.ok onm (fun _ => False)
      clear hfar
      go_wp2_with fail
      refine kA.mono ?_
      intro e w3 hp
      obtain ⟨q3, rfl, hL3, _⟩ := hL2.res hp kK
      clear hp kA kK hL2 hvb2
      have kI := ChkImage_calls _ hL3.st.img hL3.ok
      go_wp2_with fail
      refine kI.mono ?_
      rintro e w4 ⟨v0, v1, rfl, hs0, hs1, hf4⟩
      have hL4 := hL3.keep hf4
      clear kI
      go_wp2_with fail
      refine (Clean_calls _ _ _ _ [] [] [] [] _ hs0 hs1 (Sl.nil _) (Sl.nil _) (by simp) (by simp) (by simp) (by simp)).mono ?_
      rintro e w5 ⟨rfl, hf5⟩
      have hL5 := hL4.keep hf5
      clear hs0 hs1 hL4
      go_wp2
      go_roundw
      case rel => exact ⟨k + 1, q3, _, by omega, by go_num, hL5⟩
      case measure => simp [intOf]; omega
    by_cases e7 : ok = 7
    case pos =>
      subst e7
      have kA := iDrop_calls onm _ hL2.st.img hL2.ok
      have kK := drop_K hL2.ok onm (fun _ => False) (fun h => h)
      clear hfar
      go_wp2_with fail
      refine kA.mono ?_
      intro e w3 hp
      obtain ⟨q3, rfl, hL3, _⟩ := hL2.res hp kK
      clear hp kA kK hL2 hvb2
      have kI := ChkImage_calls _ hL3.st.img hL3.ok
      go_wp2_with fail
      refine kI.mono ?_
      rintro e w4 ⟨v0, v1, rfl, hs0, hs1, hf4⟩
      have hL4 := hL3.keep hf4
      clear kI
      go_wp2_with fail
      refine (Clean_calls _ _ _ _ [] [] [] [] _ hs0 hs1 (Sl.nil _) (Sl.nil _) (by simp) (by simp) (by simp) (by simp)).mono ?_
      rintro e w5 ⟨rfl, hf5⟩
      have hL5 := hL4.keep hf5
      clear hs0 hs1 hL4
      go_wp2
      go_roundw
      case rel => exact ⟨k + 1, q3, _, by omega, by go_num, hL5⟩
      case measure => simp [intOf]; omega
    have b1 : (ok == 1) = false := by simpa using e1
    have b2 : (ok == 2) = false := by simpa using e2
    have b3 : (ok == 3) = false := by simpa using e3
    have b4 : (ok == 4) = false := by simpa using e4
    have b5 : (ok == 5) = false := by simpa using e5
    have b6 : (ok == 6) = false := by simpa using e6
    have b7 : (ok == 7) = false := by simpa using e7
    clear e1 e2 e3 e4 e5 e6 e7 hfar hvb2
    have kI := ChkImage_calls _ hL2.st.img hL2.ok
    go_wp2_with fail
    refine kI.mono ?_
    rintro e w4 ⟨v0, v1, rfl, hs0, hs1, hf4⟩
    have hL4 := hL2.keep hf4
    clear kI
    go_wp2_with fail
    refine (Clean_calls _ _ _ _ [] [] [] [] _ hs0 hs1 (Sl.nil _) (Sl.nil _) (by simp) (by simp) (by simp) (by simp)).mono ?_
    rintro e w5 ⟨rfl, hf5⟩
    have hL5 := hL4.keep hf5
    clear hs0 hs1 hL4
    go_wp2
    go_roundw
    case rel => exact ⟨k + 1, q, _, by omega, by go_num, hL5⟩
    case measure => simp [intOf]; omega
  have hke : k = l.length := by omega
  subst hke
  clear hlt hk hlc hv
  go_wp2_with fail
  refine (alive_calls _).mono ?_
  rintro e w9 ⟨rfl, hf9⟩
  go_wp2
  go_ret
  exact ⟨rfl, (hf0.trans0 hL.st.fr).trans0 hf9⟩
end Go.Proofs.YtilhbjjjmdnjmaaGreat
