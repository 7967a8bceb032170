/-
  Package image: what is told, less, set.
-/
import Derived.Test.YtilhbjjjmdnjmaaGreatM12
import Derived.Test.YtilhbjjjmdnjmaaGreatM10
import Derived.Test.YtilhbjjjmdnjmaaGreatM13
namespace Go.Proofs.YtilhbjjjmdnjmaaGreat
open Go.RowKit Go.Maps
attribute [local go_sem] mapAt_alloc mapAt_setCell mapAt_drew mapAt_drewN cells_str store_str

theorem keyH {k : Nat} (h : k < 512) : keyOf Tryz.prog 3 (.int .i64 (k : Int)) = some (.int .i64 (k : Int)) := keyOf_int_mk Tryz.underlying3 (by simp [Lit.wf, IntKind.min, IntKind.max, IntKind.signed, IntKind.bits]; omega)
def allI (M : Img) : Nat := M.t.length * 2 ^ M.B
def insideI (M : Img) (at_ long : Int) : Int := if long < 0 then 1 else if at_ < 0 ∨ long > allI M ∨ at_ > allI M - long then 121 else 0
section
variable {ib : Nat} {p : Pl} {M : Img}
set_option maxRecDepth 100000 in
set_option maxHeartbeats 800000 in
theorem iSize_calls (w : World) (h : ImgW w ib p M) : Calls Tryz.prog 14 #[.pointer (some ⟨ib, 0, none⟩)] w fun e w' => e = .returned (.int .i64 M.t.length) ∧ w = w' := by
  have c := h.blk.cell
  have kL := Len_calls p.tb p.mb M.t w h.tab
  clear h
  go_enter Tryz.func14, Tryz.ntmps14
  go_wp2_with fail
  refine kL.mono ?_
  rintro e w1 ⟨rfl, rfl⟩
  go_wp2
  go_ret
  exact ⟨rfl, rfl⟩
set_option maxRecDepth 100000 in
set_option maxHeartbeats 800000 in
theorem iKind_calls (x : Int) (w : World) (h : ImgW w ib p M) : Calls Tryz.prog 13 #[.pointer (some ⟨ib, 0, none⟩), .int .i64 x] w fun e w' => e = .returned (.int .i64 (tget M.t x).1) ∧ Fr [] w w' := by
  have c := h.blk.cell
  have kG := Get_calls p.tb p.mb M.t x w h.tab
  clear h
  generalize tget M.t x = s at *
  obtain ⟨a, b, o⟩ := s
  unfold slotV at kG
  simp only at kG
  have fk := fieldKind (.int .i64 a) (.int .i64 b) (.bool o)
  go_enter Tryz.func13, Tryz.ntmps13
  go_wp2_with fail
  refine kG.mono ?_
  rintro e w1 ⟨rfl, hf⟩
  go_wp2
  go_ret
  exact ⟨rfl, hf⟩
set_option maxRecDepth 100000 in
set_option maxHeartbeats 800000 in
theorem iFree_calls (w : World) (h : ImgW w ib p M) : Calls Tryz.prog 26 #[.pointer (some ⟨ib, 0, none⟩)] w fun e w' => e = .returned (.int .i64 (freeN M.n : Nat)) ∧ w = w' := by
  have c := h.blk.cell
  have kF := cFree_calls p.nb p.nv M.n w h.cnt
  clear h
  go_enter Tryz.func26, Tryz.ntmps26
  go_wp2_with fail
  refine kF.mono ?_
  rintro e w1 ⟨rfl, rfl⟩
  go_wp2
  go_ret
  exact ⟨rfl, rfl⟩
set_option maxRecDepth 100000 in
set_option maxHeartbeats 800000 in
theorem iBytes_calls (w : World) (h : ImgW w ib p M) (hB : M.B ≤ 3) : Calls Tryz.prog 48 #[.pointer (some ⟨ib, 0, none⟩)] w fun e w' => e = .returned (.int .i64 (M.z : Nat)) ∧ w = w' := by
  have c := h.blk.cell
  clear h
  have hm : (16 : Int) * 2 ^ M.B = (M.z : Nat) := by unfold Img.z; push_cast; rfl
  have hz : M.z ≤ 128 := by
    unfold Img.z
    have : 2 ^ M.B ≤ 2 ^ 3 := Nat.pow_le_pow_right (by omega) hB
    omega
  have hw : IntKind.i64.wrap (M.z : Int) = (M.z : Int) := IntWalk.i64_in _ (by omega)
  generalize M.z = Z at *
  generalize M.B = B at *
  go_enter Tryz.func48, Tryz.ntmps48
  go_wp2
  go_ret
  exact ⟨rfl, rfl⟩
set_option maxRecDepth 100000 in
set_option maxHeartbeats 1600000 in
theorem Writes_calls (k : Int) (x : Int) (o : Bool) (w : World) : Calls Tryz.prog 85 #[.agg #[.int .i64 k, .int .i64 x, .bool o]] w fun e w' => e = .returned (.bool (decide (k = 1) && o)) ∧ Fr [] w w' := by
  have c := (Blk.new w [.int .i64 k, .int .i64 x, .bool o] 90).cell
  by_cases hk : k = 1
  · subst hk
    go_enter Tryz.func85, Tryz.ntmps85
    go_wp2
    go_ret
    exact ⟨by simp, (Fr.refl _ _).alloc _⟩
  · have hk' : (k == 1) = false := by simpa using hk
    have hd : decide (k = 1) = false := decide_eq_false hk
    rw [hd]
    clear hk hd
    go_enter Tryz.func85, Tryz.ntmps85
    go_wp2
    go_ret
    exact ⟨rfl, (Fr.refl _ _).alloc _⟩
set_option maxRecDepth 100000 in
set_option maxHeartbeats 1600000 in
theorem iNeeds_calls (c f t a : Int) (w : World) (h : ImgW w ib p M) : Calls Tryz.prog 45 #[.pointer (some ⟨ib, 0, none⟩), .agg #[.int .i64 c, .int .i64 f, .int .i64 t, .int .i64 a]] w fun e w' => e = .returned (.bool (needB (tget M.t c))) ∧ Fr [] w w' := by
  have hf := (Fr.refl [] w).alloc (.cells #[.int .i64 c, .int .i64 f, .int .i64 t, .int .i64 a] 101)
  have B := Blk.new w [.int .i64 c, .int .i64 f, .int .i64 t, .int .i64 a] 101
  have h1 := h.fr0 hf
  have b1 := h1.blk
  have kG := fun W (hW : Fr [] ((w.alloc (.cells #[.int .i64 c, .int .i64 f, .int .i64 t, .int .i64 a] 101))) W) => Get_calls p.tb p.mb M.t c W (h1.fr0 hW).tab
  unfold needB
  generalize tget M.t c = s at *
  obtain ⟨k, x, o⟩ := s
  clear h h1
  go_enter Tryz.func45, Tryz.ntmps45
  go_wp2_with fail
  generalize w.alloc (.cells #[.int .i64 c, .int .i64 f, .int .i64 t, .int .i64 a] 101) = w1 at *
  have hd : Fr [] w1 w1.drew := (Fr.refl [] w1).drew
  refine wp_region_G (Fr [] w1.drew) [(true, 0), (true, 1), (true, 2), (true, 3), (true, 4), (true, 5), (false, 6), (false, 7), (true, 8), (true, 9)] (by as_aux_lemma => kernel_rfl) (by as_aux_lemma => kernel_rfl) (Fr.refl _ _) ?_
  simp only [inOrder, List.map_cons, List.map_nil, List.getD_cons_zero, List.getD_cons_succ]
  iterate 3
    refine wpG_pure fun K hK => ?_
    go_simp
    refine hK _ ?_
    clear hK K
  refine wpG_val (.pointer (some ⟨p.tb, 0, none⟩)) (by first | rfl | go_simp) (fun X hX => by have cc := ((b1.drew).fr0 hX).cell; go_simp) ?_
  simp only [Act.put, List.setIfInBounds_toArray, List.set_cons_zero, List.set_cons_succ]
  iterate 1
    refine wpG_pure fun K hK => ?_
    go_simp
    refine hK _ ?_
    clear hK K
  refine wpG_val (.int .i64 c) (by first | rfl | go_simp) (fun X hX => by have cc := ((B.drew).fr0 hX).cell; go_simp) ?_
  simp only [Act.put, List.setIfInBounds_toArray, List.set_cons_zero, List.set_cons_succ]
  refine wpG_one fun K hK => ?_
  go_simp
  refine (kG _ hd).mono ?_
  rintro e w2 ⟨rfl, hf2⟩
  refine hK _ _ (hf2) ?_
  clear hK K
  refine wpG_one fun K hK => ?_
  go_simp
  refine (Writes_calls k x o _).mono ?_
  rintro e w3 ⟨rfl, hf3⟩
  refine hK _ _ (hf2.trans0 hf3) ?_
  clear hK K
  iterate 2
    refine wpG_pure fun K hK => ?_
    go_simp
    refine hK _ ?_
    clear hK K
  refine wpG_end ?_
  go_wp2
  go_ret
  exact ⟨ret_bool (by rw [Bool.not_and]), ((hf.trans0 hd).trans0 hf2).trans0 hf3⟩
set_option maxRecDepth 100000 in
set_option maxHeartbeats 1600000 in
theorem iInside_calls (x l : Int) (w : World) (h : ImgW w ib p M) (hB : M.B ≤ 3) : Calls Tryz.prog 43 #[.pointer (some ⟨ib, 0, none⟩), .int .i64 x, .int .i64 l] w fun e w' => e = .returned (.int .i64 (insideI M x l)) ∧ Fr [] w w' := by
  have b1 := h.blk
  have hd : Fr [] w w.drew := (Fr.refl [] w).drew
  have kS := iSize_calls w.drew (h.fr0 hd)
  have hlen := h.tab.len
  have H1 : Hid (l < 0 → insideI M x l = 1) := hidIt (fun e => by unfold insideI; rw [if_pos e])
  have H2 : Hid (¬ l < 0 → (x < 0 ∨ l > allI M ∨ x > allI M - l) → insideI M x l = 121) := hidIt (fun e e2 => by unfold insideI; rw [if_neg e, if_pos e2])
  have H3 : Hid (¬ l < 0 → ¬ (x < 0 ∨ l > allI M ∨ x > allI M - l) → insideI M x l = 0) := hidIt (fun e e2 => by unfold insideI; rw [if_neg e, if_neg e2])
  have hall : Hid (allI M = M.t.length * 2 ^ M.B) := hidIt rfl
  have hbnd : allI M ≤ 2048 := by
    unfold allI
    have : 2 ^ M.B ≤ 2 ^ 3 := Nat.pow_le_pow_right (by omega) hB
    have : M.t.length * 2 ^ M.B ≤ 256 * 8 := Nat.mul_le_mul hlen this
    omega
  have hAB : Hid (allI M = M.t.length * 2 ^ M.B) := hidIt rfl
  clear h hd
  generalize insideI M x l = res at *
  generalize allI M = A at *
  generalize M.B = B at *
  generalize M.t.length = len at *
  have hB' : B = 0 ∨ B = 1 ∨ B = 2 ∨ B = 3 := by omega
  clear hB hall
  go_enter Tryz.func43, Tryz.ntmps43
  go_wp2_with fail
  have hm : (len : Int) * 2 ^ B = A := by rw [hAB.out]; push_cast; rfl
  refine wp_region_G (Fr [] w.drew) [(true, 0), (true, 2), (true, 3), (true, 4), (true, 5), (false, 1), (true, 6), (true, 7)] (by as_aux_lemma => kernel_rfl) (by as_aux_lemma => kernel_rfl) (Fr.refl _ _) ?_
  simp only [inOrder, List.map_cons, List.map_nil, List.getD_cons_zero, List.getD_cons_succ]
  iterate 4
    refine wpG_pure fun K hK => ?_
    go_simp
    refine hK _ ?_
    clear hK K
  refine wpG_val (.int .i64 (B : Int)) (by first | rfl | go_simp) (fun X hX => by have cc := ((b1.drew).fr0 hX).cell; go_simp) ?_
  simp only [Act.put, List.setIfInBounds_toArray, List.set_cons_zero, List.set_cons_succ]
  refine wpG_one fun K hK => ?_
  go_simp
  refine (kS).mono ?_
  rintro e w1 ⟨rfl, rfl⟩
  refine hK _ _ (Fr.refl _ _) ?_
  clear hK K
  have hw : IntKind.i64.wrap (A : Int) = (A : Int) := IntWalk.i64_in _ (by omega)
  iterate 2
    refine wpG_pure fun K hK => ?_
    go_simp
    refine hK _ ?_
    clear hK K
  refine wpG_end ?_
  have hF := (Fr.refl [] w).drew
  clear hm hw kS b1 hAB hB'
  by_cases h1 : l < 0
  · have e := hidIt (H1.out h1)
    clear H1 H2 H3
    go_wp2
    go_ret
    exact ⟨ret_int e.out.symm, hF⟩
  · by_cases h2 : x < 0
    · have e := hidIt (H2.out (by omega) (.inl h2))
      clear H1 H2 H3
      go_wp2
      go_ret
      exact ⟨ret_int e.out.symm, hF⟩
    · by_cases h3 : l > A
      · have e := hidIt (H2.out (by omega) (.inr (.inl h3)))
        have h3' : (A : Int) < l := h3
        clear H1 H2 H3
        go_wp2
        go_ret
        exact ⟨ret_int e.out.symm, hF⟩
      · have h3' : ¬ (A : Int) < l := h3
        have hsub : IntKind.i64.wrap ((A : Int) - l) = (A : Int) - l := IntWalk.i64_in _ (by omega)
        by_cases h4 : x > A - l
        · have e := hidIt (H2.out (by omega) (.inr (.inr h4)))
          have h4' : (A : Int) - l < x := h4
          clear H1 H2 H3
          go_wp2
          go_ret
          exact ⟨ret_int e.out.symm, hF⟩
        · have e := hidIt (H3.out (by omega) (by rintro (h | h | h); exact h2 h; exact h3 h; exact h4 h))
          have h4' : ¬ (A : Int) - l < x := h4
          clear H1 H2 H3
          go_wp2
          go_ret
          exact ⟨ret_int e.out.symm, hF⟩
end
end Go.Proofs.YtilhbjjjmdnjmaaGreat
