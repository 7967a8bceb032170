/-
  ref04.Right: which names may be.
-/
import Derived.Test.YtilhbjjjmdnjmaaGreatM30
import Derived.BigQuiet
namespace Go.Proofs.YtilhbjjjmdnjmaaGreat
open Go.RowKit Go.Maps

def signsL : List UInt8 := [97, 98, 99, 100, 101, 102, 103, 104, 105, 106, 107, 108, 109, 110, 111, 112, 113, 114, 115, 116, 117, 118, 119, 120, 121, 122, 48, 49, 50, 51, 52, 53, 54, 55, 56, 57, 46, 45]
theorem signs_ok : ∀ n : Fin 256, signsL.contains (UInt8.ofNat n.val) = okSign (UInt8.ofNat n.val) := by decide +kernel
theorem signs_all (x : UInt8) : signsL.contains x = okSign x := by
  have h := signs_ok ⟨x.toNat, x.toNat_lt⟩
  simpa using h
theorem take_contains {Q : List UInt8} {k : Nat} (hk : k < Q.length) (x : UInt8) : (Q.take (k + 1)).contains x = ((Q.take k).contains x || (Q.getD k 0 == x)) := by
  have h1 : Q.take (k + 1) = Q.take k ++ [Q[k]] := List.take_succ_eq_append_getElem hk
  rw [h1, List.getD_eq_getElem?_getD, List.getElem?_eq_getElem hk, Bool.eq_iff_iff]
  simp only [List.contains_iff_mem, List.mem_append, List.mem_singleton, Bool.or_eq_true, beq_iff_eq, Option.getD_some]
  constructor
  · rintro (h | h)
    · exact .inl h
    · exact .inr h.symm
  · rintro (h | h)
    · exact .inl h
    · exact .inr h.symm
set_option maxRecDepth 100000 in
set_option maxHeartbeats 1600000 in
theorem rNameR_calls (s : List UInt8) (w : World) (hs : s.length ≤ maxLen) : Calls Tryz.prog 75 #[strL s] w fun e w' => e = .returned (.bool (okName s)) ∧ Fr [] w w' := by
  unfold maxLen at hs
  have hlen := fun ty X => len_str s ty X
  obtain ⟨Q, hQ⟩ : ∃ Q, Q = signsL := ⟨_, rfl⟩
  have hlit : Value.string ⟨#[97, 98, 99, 100, 101, 102, 103, 104, 105, 106, 107, 108, 109, 110, 111, 112, 113, 114, 115, 116, 117, 118, 119, 120, 121, 122, 48, 49, 50, 51, 52, 53, 54, 55, 56, 57, 46, 45]⟩ = strL Q := by rw [hQ]; rfl
  have hQl : Q.length = 38 := by rw [hQ]; rfl
  have HQ := hidIt hQ
  have hlenQ := fun ty X => len_str Q ty X
  rw [hQl] at hlenQ
  clear hQ
  go_enter Tryz.func75, Tryz.ntmps75
  go_wp2
  go_loopw [4, 5, 6] (fun i _ _ wr => ∃ k : Nat, k ≤ s.length ∧ i = .int .i64 k ∧ (s.take k).all okSign = true ∧ Fr [] w wr) (fun i _ _ _ => s.length - (intOf i).toNat)
  case atStart => exact ⟨0, Nat.zero_le _, rfl, by simp, Fr.refl _ _⟩
  case round =>
    obtain ⟨k, hk, rfl, hall, hF⟩ := hrel
    by_cases hlt : k < s.length
    · have hat := fun X => at_str hlt X
      have Hyes : Hid (okSign (s.getD k 0) = true → (s.take (k + 1)).all okSign = true) := hidIt (all_take hall hlt)
      have Hno : Hid (okSign (s.getD k 0) = false → okName s = false) := hidIt (all_not hlt)
      clear hall
      generalize s.getD k 0 = x at *
      go_wp2
      go_loopw [5, 6] (fun d i w2 => ∃ j : Nat, j ≤ 38 ∧ i = .int .i64 j ∧ d = .bool ((Q.take j).contains x) ∧ Fr [] w w2) (fun _ i _ => 38 - (intOf i).toNat)
      case atStart => exact ⟨0, Nat.zero_le _, rfl, by simp, hF⟩
      case round =>
        clear hF
        obtain ⟨j, hj, rfl, rfl, hF⟩ := hrel
        by_cases hjl : j < 38
        · have hatQ := fun X => at_str (l := Q) (i := j) (by omega) X
          have Hst := hidIt (take_contains (Q := Q) (k := j) (by omega) x)
          generalize Q.getD j 0 = y at *
          generalize (Q.take j).contains x = cb at *
          by_cases hxy : y = x
          · have hb : ((y.toNat : Int) == (x.toNat : Int)) = true := by simp [hxy]
            have Hr : Hid ((Q.take (j + 1)).contains x = true) := hidIt (by rw [Hst.out, hxy]; simp)
            clear hxy Hst
            generalize (y.toNat : Int) = Y at *
            generalize (x.toNat : Int) = X at *
            go_wp2_with fail
            go_quiet (fail)
            go_wp2
            go_roundw
            case rel => exact ⟨j + 1, by omega, by go_num, by rw [Hr.out], hF.drewN _⟩
            case measure => simp [intOf]; omega
          · have hb : ((y.toNat : Int) == (x.toNat : Int)) = false := by
              simp only [beq_eq_false_iff_ne, ne_eq]
              intro h
              exact hxy (UInt8.toNat_inj.1 (by omega))
            have Hr : Hid ((Q.take (j + 1)).contains x = cb) := hidIt (by rw [Hst.out]; simp [hxy])
            clear hxy Hst
            generalize (y.toNat : Int) = Y at *
            generalize (x.toNat : Int) = X at *
            go_wp2_with fail
            go_quiet (fail)
            go_wp2
            go_roundw
            case rel => exact ⟨j + 1, by omega, by go_num, by rw [Hr.out], hF.drewN _⟩
            case measure => simp [intOf]; omega
        · have hje : j = 38 := by omega
          subst hje
          have hc : (Q.take 38).contains x = okSign x := by rw [← hQl, List.take_length, HQ.out, signs_all]
          rw [hc]
          cases hok : okSign x with
          | true =>
            have Hy := hidIt (Hyes.out hok)
            clear Hyes Hno hok hc
            go_wp2
            go_roundw
            case rel => exact ⟨k + 1, by omega, by go_num, Hy.out, hF⟩
            case measure => simp [intOf]; omega
          | false =>
            have Hn := hidIt (Hno.out hok)
            clear Hyes Hno hok hc
            go_wp2
            go_ret
            exact ⟨ret_bool Hn.out.symm, hF⟩
    · have hke : k = s.length := by omega
      subst hke
      rw [List.take_length] at hall
      have Hr : Hid (okName s = (decide ((0 : Int) < s.length) && decide ((s.length : Int) < 16))) := hidIt (by
        unfold okName
        rw [hall, Bool.true_and]
        rw [Bool.eq_iff_iff]
        simp
        omega)
      clear hall
      by_cases h0 : (0 : Int) < s.length
      · go_wp2
        go_ret
        exact ⟨ret_bool (by rw [Hr.out, decide_eq_true h0, Bool.true_and]), hF⟩
      · go_wp2
        go_ret
        exact ⟨ret_bool (by rw [Hr.out, decide_eq_false (show ¬ (0 : Int) < s.length by omega)]; rfl), hF⟩
end Go.Proofs.YtilhbjjjmdnjmaaGreat
