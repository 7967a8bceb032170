/-
  check.Image, of an image of which all holds that always does.
-/
import Derived.Test.YtilhbjjjmdnjmaaGreatM48
import Derived.Test.YtilhbjjjmdnjmaaGreatM44
import Derived.Test.YtilhbjjjmdnjmaaGreatM37
namespace Go.Proofs.YtilhbjjjmdnjmaaGreat
open Go.RowKit Go.Maps

theorem slI_nat {w : World} {v : Value} {n : List Nat} (h : SlF natC w v n) : SlI w v (n.map fun x : Nat => (x : Int)) := by
  have e : (n.map fun x : Nat => (x : Int)).flatMap intC = n.flatMap natC := by rw [List.flatMap_map]
  unfold SlI SlF at *
  rw [List.length_map, e]
  exact h
theorem nilI {w W : World} {v : Value} (h : SlI w v []) : SlI W v [] := by
  obtain ⟨a, c, rfl, h1, h2, _⟩ := h
  exact ⟨a, c, rfl, h1, h2, .inl rfl⟩
theorem more_same (n : List Int) : ∀ k, pickTo (moreB n n) k = [] ∧ pickTo (lessB n n) k = []
  | 0 => ⟨rfl, rfl⟩
  | k + 1 => by
    have ih := more_same n k
    rw [pickTo_succ, pickTo_succ, ih.1, ih.2]
    simp [moreB, lessB]
section
variable {ib : Nat} {p : Pl} {M : Img}
def repPost0 (w : World) (e : Ending) (w' : World) : Prop := ∃ v0 v1, e = .returned (.agg #[v0, v1, .slice none 0 0, .slice none 0 0]) ∧ SlI w' v0 [] ∧ SlI w' v1 [] ∧ Fr [] w w'
set_option maxRecDepth 100000 in
set_option maxHeartbeats 3200000 in
theorem ChkImage_calls (w : World) (h : ImgW w ib p M) (hok : OkI M) : Calls Tryz.prog 24 #[.pointer (some ⟨ib, 0, none⟩)] w (repPost0 w) := by
  have B2 := Blk.new w [.slice none 0 0, .slice none 0 0, .slice none 0 0, .slice none 0 0] 59
  have f2 := (Fr.refl [] w).alloc (.cells #[.slice none 0 0, .slice none 0 0, .slice none 0 0, .slice none 0 0] 59)
  have B3 := Blk.new' (w := w.alloc (.cells #[.slice none 0 0, .slice none 0 0, .slice none 0 0, .slice none 0 0] 59)) (n := w.heap.size + 1) (by simp) [.slice none 0 0, .slice none 0 0, .slice none 0 0, .slice none 0 0] 59
  replace f2 := f2.alloc (.cells #[.slice none 0 0, .slice none 0 0, .slice none 0 0, .slice none 0 0] 59)
  replace B2 := B2.alloc (.cells #[.slice none 0 0, .slice none 0 0, .slice none 0 0, .slice none 0 0] 59)
  have h2 := h.fr0 f2
  have hs2 := f2.size
  generalize hw1 : (w.alloc (.cells #[.slice none 0 0, .slice none 0 0, .slice none 0 0, .slice none 0 0] 59)).alloc (.cells #[.slice none 0 0, .slice none 0 0, .slice none 0 0, .slice none 0 0] 59) = w1 at *
  have hroom := hok.room
  obtain ⟨r, hr⟩ : ∃ r, Hid (r = M.n.length) := ⟨_, hidIt rfl⟩
  rw [← hr.out] at hroom
  have hl2 := B3.lt
  go_enter Tryz.func24, Tryz.ntmps24
  go_wp2_with fail
  try rw [hw1]
  refine (iCounts_calls _ h2).mono ?_
  rintro e w4 ⟨nb, rv, rfl, hC, hnb, hrv, hf4⟩
  have kLen := fun W (h : CntW W nb rv M.n) => cLen_calls nb rv M.n W h
  have kAt := fun W (h : CntW W nb rv M.n) x hx => cAt_calls nb rv M.n W h x hx
  rw [← hr.out] at kLen kAt
  have hnx : ∀ j, j < r → Hid (M.n.take (j + 1) = M.n.take j ++ [M.n.getD j 0]) := fun j hj => hidIt (by
    have hj' : j < M.n.length := by rw [← hr.out]; exact hj
    rw [List.take_succ_eq_append_getElem hj', List.getD_eq_getElem?_getD, List.getElem?_eq_getElem hj']
    rfl)
  have hnend : Hid (M.n.take r = M.n) := hidIt (List.take_of_length_le (by rw [← hr.out]; exact Nat.le_refl _))
  have h4 := h2.fr0 hf4
  have B24 := B2.fr0 hf4
  have B34 := B3.fr0 hf4
  have hF4 := f2.trans0 hf4
  have hz4 := hf4.size
  clear h h2 hw1 hnb hrv hf4 B2 B3 f2
  go_wp2_with fail
  refine (kLen _ hC).mono ?_
  rintro e w5 ⟨rfl, rfl⟩
  go_wp2_with fail
  go_loopw [4, 6, 11] (fun v _ j wr => ∃ m : Nat, m ≤ r ∧ j = .int .i64 (m : Int) ∧ wr.ownsRow w4.heap.size 3 1 v m ((M.n.take m).flatMap natC) ∧ Fr [] w4 wr) (fun _ _ j _ => r - (intOf j).toNat)
  case atStart => exact ⟨0, Nat.zero_le _, rfl, World.ownsRow_nil _ _ _ _, Fr.refl _ _⟩
  obtain ⟨m, hm, rfl, ho, hF⟩ := hrel
  by_cases hlm : m < r
  case pos =>
    have hx := hnx m hlm
    have kA := kAt _ (hC.fr0 hF) m (by omega)
    generalize M.n.getD m 0 = x at *
    obtain ⟨av, cv, rfl, _⟩ := Sl.of_owns ho
    have hz : w4.heap.size ≤ wr.heap.size := hF.size
    clear hnx hnend kAt kLen hC h4
    go_wp2_with fail
    refine kA.mono ?_
    rintro e w7 ⟨rfl, rfl⟩
    have hone : ∀ u ∈ [Value.int .i64 (x : Int)], u.oneCell' = true := fun u hu => by rw [List.mem_singleton.1 hu]; rfl
    go_wp2_with (at_builtin; refine Hid.out ?_)
    refine hidIt ?_
    refine wpList_append1 57 3 _ 1 8 Tryz.underlying57 infoN rfl (by decide) (by decide) rfl _ _ rfl w4.heap.size _ _ _ rfl (ho.alloc _) [.int .i64 (x : Int)] rfl hone wr.heap.size rfl (Blk.new' (by simp) _ _) (by omega) (by simp; omega) ?_
    intro v' w8 hown2 hgrow hloc
    have hF2 : Fr [] w4 w8 := (hF.alloc _).grown hgrow (fun y hy => .inr (own_base ho y hy))
    rw [show [Value.int .i64 (x : Int)] = [x].flatMap natC from rfl, ← List.flatMap_append, ← hx.out] at hown2
    obtain ⟨a2, q2, rfl, _⟩ := Sl.of_owns hown2
    clear hgrow hloc
    go_wp2
    go_roundw
    case rel => exact ⟨m + 1, by omega, by go_num, hown2, hF2⟩
    case measure => simp [intOf]; omega
  have hme : m = r := by omega
  subst hme
  rw [hnend.out] at ho
  have hsn := SlF.of_owns (f := natC) (l := M.n) (by rw [← hr.out]; exact ho)
  obtain ⟨av, cv, rfl, _⟩ := Sl.of_owns ho
  have h5 := h4.fr0 hF
  have B25 := B24.fr0 hF
  have B35 := B34.fr0 hF
  have hF5 := hF4.trans0 hF
  clear hlm hm hnx hnend kAt kLen ho hC h4 B24 B34 hF4 hF
  go_wp2_with fail
  refine (iRefs_calls _ h5 hok).mono ?_
  rintro e w6 ⟨vr, rfl, hvr, hf6⟩
  have hs1 := slI_nat (SlF.fr0 hsn hf6)
  have hs2' := slI_nat (SlF.of_owns hvr)
  have B26 := B25.fr0 hf6
  have B36 := B35.fr0 hf6
  have hF6 := hF5.trans0 hf6
  have hnl : (M.n.map fun x : Nat => (x : Int)).length ≤ 1048576 := by rw [List.length_map, ← hr.out]; omega
  have kC := counted_calls _ _ _ _ w6 hs1 hs2' rfl hnl
  rw [(more_same _ _).1, (more_same _ _).2] at kC
  clear hvr hsn hs1 hs2' B25 B35 hF5 h5
  go_wp2_with fail
  refine kC.mono ?_
  rintro e w7 ⟨v1, v2, rfl, hO, hf7⟩
  have B27 := B26.fr0 hf7
  have B37 := B36.fr0 hf7
  have hF7 := hF6.trans0 hf7
  have hO0 := SlF.of_owns (f := intC) (l := []) (hO.2.1 0 _ rfl)
  have hO1 := SlF.of_owns (f := intC) (l := []) (hO.2.1 1 _ rfl)
  obtain ⟨x1, y1, rfl, _⟩ := SlF.open hO0
  obtain ⟨x2, y2, rfl, _⟩ := SlF.open hO1
  clear hO kC hnl
  have c2 := B27.cell
  have c3 := B37.cell
  have g2 := B27.frozen
  have g3 := B37.frozen
  go_wp2
  refine bodyPost_ret (v := .agg #[.slice x1 0 y1, .slice x2 0 y2, .slice none 0 0, .slice none 0 0]) (by simp [results, Tryz.results24, go_sem, c2]) rfl ⟨_, _, rfl, nilI hO0, nilI hO1, (((((hF7.setCell (.inr (by simp)) _).setCell (.inr (by simp)) _).setCell (.inr (by simp)) _).setCell (.inr (by simp)) _).setCell (.inr (by simp)) _).setCell (.inr (by simp)) _⟩
end
end Go.Proofs.YtilhbjjjmdnjmaaGreat
