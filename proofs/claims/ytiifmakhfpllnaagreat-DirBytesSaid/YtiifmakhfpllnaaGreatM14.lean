/-
  ref06.SameExtents.
-/
import Derived.Test.YtiifmakhfpllnaaGreatM10
import Derived.ChangeKeysEq
namespace Go.Proofs.YtiifmakhfpllnaaGreat
open Go.RowKit Go.Maps

def eE (a b : Op3) : Bool := decide (a.1 = b.1) && (decide (a.2.1 = b.2.1) && decide (a.2.2 = b.2.2))
theorem eE_iff {a b : Op3} : eE a b = true ↔ a = b := by
  obtain ⟨a1, a2, a3⟩ := a
  obtain ⟨b1, b2, b3⟩ := b
  simp [eE]
theorem fieldsExt (f : Array Field) (h : f = #[{ name := "From", type := 3, offset := 0, embedded := false, tag := "", pkgPath := "", byteOffset := 0 }, { name := "Long", type := 3, offset := 1, embedded := false, tag := "", pkgPath := "", byteOffset := 8 }, { name := "Kind", type := 3, offset := 2, embedded := false, tag := "", pkgPath := "", byteOffset := 16 }])
    (d : Nat) (a b : Op3) (w : World) : (Op.eqFields (d + 1) (op3C a).toArray (op3C b).toArray f.toList).run Tryz.prog w = .ok (eE a b) w := by
  obtain ⟨a1, a2, a3⟩ := a
  obtain ⟨b1, b2, b3⟩ := b
  rw [h]
  unfold eE
  by_cases h1 : a1 = b1 <;> by_cases h2 : a2 = b2 <;> by_cases h3 : a3 = b3 <;> simp [Op.eqFields, go_sem, h1, h2, h3, Tryz.underlying3]
theorem equalExt0 (a b c a' b' c' : Int) (w : World) :
    (Op.equalIn 10000 123 (.agg #[.int .i64 a, .int .i64 b, .int .i64 c]) (.agg #[.int .i64 a', .int .i64 b', .int .i64 c'])).run Tryz.prog w = .ok (eE (a, b, c) (a', b', c')) w := by
  rw [run_equalIn_struct (P := Tryz.prog) w 9999 123 _ _ (by kernel_rfl) (by kernel_rfl)]
  exact fieldsExt _ (by kernel_rfl) 9998 (a, b, c) (a', b', c') w
attribute [local go_sem high] equalExt0
set_option maxRecDepth 100000 in
set_option maxHeartbeats 1600000 in
theorem SameExt_calls (v u : Value) (A B : List Op3) (w : World) (hv : SlP w v A) (hu : SlP w u B) : Calls Tryz.prog 35 #[v, u] w fun e w' => e = .returned (.bool (decide (A = B))) ∧ Fr [] w w' := by
  obtain ⟨a, cap, rfl, hlc, hcm, _⟩ := hv.open
  obtain ⟨a', cap', rfl, hlc', hcm', _⟩ := hu.open
  unfold maxLen at hcm hcm'
  by_cases hl : A.length = B.length
  · have Hy : Hid ((∀ j, j < A.length → A.getD j z3 = B.getD j z3) → decide (A = B) = true) := hidIt (fun h => by
      have : A = B := by
        apply List.ext_getElem hl
        intro i h1 h2
        have := h i h1
        rwa [List.getD_eq_getElem?_getD, List.getD_eq_getElem?_getD, List.getElem?_eq_getElem h1, List.getElem?_eq_getElem h2] at this
      simp [this])
    have Hn : Hid (∀ j, A.getD j z3 ≠ B.getD j z3 → decide (A = B) = false) := hidIt (fun j h => by simp; rintro rfl; exact h rfl)
    generalize decide (A = B) = res at *
    have hl' : B.length = A.length := hl.symm
    clear hl
    rw [hl'] at hlc'
    go_enter Tryz.func35, Tryz.ntmps35
    go_wp2_with fail
    go_loopw [5] (fun i wr => ∃ k : Nat, k ≤ A.length ∧ i = .int .i64 k ∧ Hid (∀ j, j < k → A.getD j z3 = B.getD j z3) ∧ Fr [] w wr) (fun i _ => A.length - (intOf i).toNat)
    case atStart => exact ⟨0, Nat.zero_le _, rfl, hidIt (fun j h => by omega), Fr.refl _ _⟩
    case round =>
      obtain ⟨k, hk, rfl, hall, hF⟩ := hrel
      by_cases hlt : k < A.length
      · obtain ⟨b, off, rfl, hb, c0, c1, c2⟩ := SlP.at (hv.fr0 hF) hlt
        obtain ⟨b', off', rfl, hb', d0, d1, d2⟩ := SlP.at (hu.fr0 hF) (i := k) (by omega)
        by_cases he : A.getD k z3 = B.getD k z3
        · have Hs : Hid (∀ j, j < k + 1 → A.getD j z3 = B.getD j z3) := hidIt (fun j hj => by
            by_cases h : j = k
            · subst h; exact he
            · exact hall.out j (by omega))
          have hE := eE_iff.2 he
          generalize A.getD k z3 = x at *
          generalize B.getD k z3 = y at *
          obtain ⟨x1, x2, x3⟩ := x
          obtain ⟨y1, y2, y3⟩ := y
          simp only at c0 c1 c2 d0 d1 d2
          clear he hall Hy Hn
          go_wp2_with fail
          go_quiet (fail)
          go_wp2
          go_roundw
          case rel => exact ⟨k + 1, by omega, by go_num, Hs, hF.drewN _⟩
          case measure => simp [intOf]; omega
        · have Hr := hidIt (Hn.out k he)
          have hE : eE (A.getD k z3) (B.getD k z3) = false := by
            rw [Bool.eq_false_iff]; exact fun h => he (eE_iff.1 h)
          generalize A.getD k z3 = x at *
          generalize B.getD k z3 = y at *
          obtain ⟨x1, x2, x3⟩ := x
          obtain ⟨y1, y2, y3⟩ := y
          simp only at c0 c1 c2 d0 d1 d2
          clear he hall Hy Hn
          go_wp2_with fail
          go_quiet (fail)
          go_wp2
          go_ret
          exact ⟨ret_bool Hr.out.symm, hF.drewN _⟩
      · have hke : k = A.length := by omega
        have Hr := hidIt (Hy.out (fun j hj => hall.out j (by omega)))
        clear hall Hy Hn hke
        go_wp2
        go_ret
        exact ⟨ret_bool Hr.out.symm, hF⟩
  · have hd : decide (A = B) = false := by simp; rintro rfl; exact hl rfl
    rw [hd]
    have hl' : ¬ (A.length : Int) = (B.length : Int) := by omega
    clear hd
    go_enter Tryz.func35, Tryz.ntmps35
    go_wp2
    go_ret
    exact ⟨rfl, Fr.refl _ _⟩
end Go.Proofs.YtiifmakhfpllnaaGreat
