/-
  law09.SpanTotals: the walk.
-/
import Derived.Test.YtkammkbjkojfmaaSpAl
import Derived.Test.YtkammkbjkojfmaaSpF
import Derived.Test.YtkammkbjkojfmaaSpKn
namespace Go.Proofs.Ytkammkbjkojfmaa
open Go.RowKit Go.Maps

set_option maxRecDepth 100000 in
set_option maxHeartbeats 1600000 in
theorem hasL_calls (v : Value) (l : List Int) (n : Int) (w : World) (hv : SlI w v l) : Calls Try.prog 28 #[v, .int .i64 n] w fun e w' => e = .returned (.bool (decide (n ∈ l))) ∧ Fr [] w w' := by
  obtain ⟨a, cap, rfl, hlc, hcm, _⟩ := hv.open
  unfold maxLen at hcm
  have Hy : ∀ k, k < l.length → Hid (l.getD k 0 = n → decide (n ∈ l) = true) := fun k hk => hidIt (fun h => by
    have := List.mem_of_getElem? (getD_some (0 : Int) hk)
    rw [h] at this
    simpa using this)
  have Hn : Hid ((∀ j, j < l.length → l.getD j 0 ≠ n) → decide (n ∈ l) = false) := hidIt (fun h => by
    simp only [decide_eq_false_iff_not]
    intro hm
    obtain ⟨i, hi, he⟩ := List.getElem_of_mem hm
    refine h i hi ?_
    rw [List.getD_eq_getElem?_getD, List.getElem?_eq_getElem hi, he]
    rfl)
  generalize decide (n ∈ l) = res at *
  go_enter Try.func28, Try.ntmps28
  go_wp2_with fail
  go_loopw [6, 9] (fun _ i wr => ∃ k : Nat, k ≤ l.length ∧ i = .int .i64 k ∧ Hid (∀ j, j < k → l.getD j 0 ≠ n) ∧ Fr [] w wr) (fun _ i _ => l.length - (intOf i).toNat)
  case atStart => exact ⟨0, Nat.zero_le _, rfl, hidIt (fun j h => by omega), Fr.refl _ _⟩
  case round =>
    obtain ⟨k, hk, rfl, hall, hF⟩ := hrel
    by_cases hlt : k < l.length
    · obtain ⟨b, off, rfl, hb, c0⟩ := SlI.at (hv.fr0 hF) hlt
      have hy := Hy k hlt
      by_cases hx : l.getD k 0 = n
      · have Hr := hidIt (hy.out hx)
        generalize l.getD k 0 = x at *
        subst hx
        clear hall Hy Hn hy
        go_wp2
        go_ret
        exact ⟨ret_bool Hr.out.symm, hF⟩
      · have hall' : Hid (∀ j, j < k + 1 → l.getD j 0 ≠ n) := hidIt (fun j hj => by
          by_cases h : j = k
          · subst h; exact hx
          · exact hall.out j (by omega))
        generalize l.getD k 0 = x at c0 hx
        have hbx : ((x : Int) == n) = false := by simpa using hx
        clear hall Hy Hn hy
        go_wp2
        go_roundw
        case rel => exact ⟨k + 1, by omega, by go_num, hall', hF⟩
        case measure => simp [intOf]; omega
    · have Hr := hidIt (Hn.out (fun j hj => hall.out j (by omega)))
      clear hall Hy Hn
      go_wp2
      go_ret
      exact ⟨ret_bool Hr.out.symm, hF⟩
/-! ### the places of all kinds that were met -/
def sumK (Z X : List Int) : Nat := (X.map (countK Z)).sum
theorem sumK_snoc (Z X : List Int) (x : Int) : sumK Z (X ++ [x]) = sumK Z X + countK Z x := by simp [sumK]
theorem sumK_cons (z : Int) (Z : List Int) : ∀ X : List Int, X.Nodup → sumK (z :: Z) X = sumK Z X + if z ∈ X then 1 else 0
  | [], _ => by simp [sumK]
  | x :: X, h => by
    have ih := sumK_cons z Z X (List.nodup_cons.1 h).2
    have hn := (List.nodup_cons.1 h).1
    have e1 : sumK (z :: Z) (x :: X) = countK (z :: Z) x + sumK (z :: Z) X := by simp [sumK]
    have e2 : sumK Z (x :: X) = countK Z x + sumK Z X := by simp [sumK]
    have e3 : countK (z :: Z) x = countK Z x + if z = x then 1 else 0 := by
      unfold countK
      rw [List.filter_cons]
      by_cases hz : z = x
      · rw [if_pos (beq_iff_eq.2 hz), if_pos hz]; rfl
      · rw [if_neg (by rw [beq_eq_false_iff_ne.2 hz]; decide), if_neg hz]; rfl
    rw [e1, e2, e3, ih]
    by_cases hz : z = x
    · subst hz
      rw [if_pos rfl, if_neg hn, if_pos (List.mem_cons_self)]
      omega
    · rw [if_neg hz]
      by_cases hm : z ∈ X
      · rw [if_pos hm, if_pos (List.mem_cons_of_mem _ hm)]
        omega
      · rw [if_neg hm, if_neg (fun h => by rcases List.mem_cons.1 h with h | h; exact hz h; exact hm h)]
        omega
theorem sumK_le (X : List Int) (h : X.Nodup) : ∀ Z : List Int, sumK Z X ≤ Z.length
  | [] => by
    have : ∀ X : List Int, sumK [] X = 0 := fun X => by induction X with
      | nil => rfl
      | cons x X ih => simp [sumK, countK] at *; exact ih
    rw [this]
    exact Nat.le_refl _
  | z :: Z => by
    rw [sumK_cons z Z X h, List.length_cons]
    have := sumK_le X h Z
    split <;> omega
theorem sumK_all (X : List Int) (h : X.Nodup) : ∀ Z : List Int, (∀ z ∈ Z, z ∈ X) → sumK Z X = Z.length
  | [], _ => Nat.le_antisymm (sumK_le X h []) (Nat.zero_le _)
  | z :: Z, ha => by
    rw [sumK_cons z Z X h, if_pos (ha z List.mem_cons_self), sumK_all X h Z (fun y hy => ha y (List.mem_cons_of_mem _ hy)), List.length_cons]
def metOk (Z X : List Int) (k : Nat) : Prop := X.Nodup ∧ X.length ≤ k ∧ ∀ j, j < k → Z.getD j 0 ∈ X
set_option maxRecDepth 100000 in
set_option maxHeartbeats 3200000 in
theorem SpanTotals_any (w : World) (v : Value) (l : List Op3) (hv : SlP w v l) (_ : okV v) : Calls Try.prog 9 #[v] w fun e w' => e = .returned (.bool true) ∧ Fr [] w w' := by
  obtain ⟨a, cap, rfl, _, _, _⟩ := hv.open
  go_enter Try.func9, Try.ntmps9
  go_wp2_with fail
  refine (fewL_calls _ l w hv).mono ?_
  rintro e w1 ⟨B, rfl, hB, hf1⟩
  cases B
  · clear hB
    go_wp2_with fail
    refine (aliveL_calls _).mono ?_
    rintro e w2 ⟨rfl, hf2⟩
    go_wp2
    go_ret
    exact ⟨rfl, hf1.trans0 hf2⟩
  have hl := (hB rfl).kinds
  clear hB
  go_wp2_with fail
  refine (sKinds_calls _ l w1 (SlF.fr0 hv hf1)).mono ?_
  rintro e w2 ⟨v2, rfl, s2, hf2, _⟩
  have hF2 := hf1.trans0 hf2
  obtain ⟨a2, c2, rfl, _, hcm2, _⟩ := s2.open
  unfold maxLen at hcm2
  have kT := fun k w hv => sTotal_calls (.slice a l.length cap) l k w hv
  have kL := fun w hv => sLong_calls (.slice a l.length cap) l w hv
  generalize kindsE l = Z at *
  go_wp2_with fail
  go_loopw [3, 4, 6, 14] (fun nn met _ i wr => ∃ (k : Nat) (X : List Int), k ≤ Z.length ∧ i = .int .i64 k ∧ nn = .int .i64 (sumK Z X) ∧ wr.ownsRow w2.heap.size 3 1 met X.length (X.flatMap intC) ∧ Hid (metOk Z X k) ∧ Fr [] w2 wr ∧ Fr [] w wr) (fun _ _ _ i _ => Z.length - (intOf i).toNat)
  case atStart => exact ⟨0, [], Nat.zero_le _, rfl, rfl, World.ownsRow_nil _ _ _ _, hidIt ⟨List.nodup_nil, Nat.le_refl _, fun j h => by omega⟩, Fr.refl _ _, hF2⟩
  case round =>
    have hz2 := hF2.size
    clear hF2
    obtain ⟨k, X, hk, rfl, rfl, hown, hm, hF2, hF⟩ := hrel
    have hob := own_base hown
    have hsz := hF2.size
    obtain ⟨am, cm, rfl, _, _, _⟩ := Sl.of_owns hown
    have hsum : sumK Z X ≤ 3000 := Nat.le_trans (sumK_le X hm.out.1 Z) hl
    have hXl : X.length ≤ 3000 := Nat.le_trans hm.out.2.1 (Nat.le_trans hk hl)
    by_cases hlt : k < Z.length
    · obtain ⟨b, off, rfl, hb, c0⟩ := SlI.at (SlF.fr0 s2 hF2) hlt
      have hsX : SlI wr (.slice am X.length cm) X := SlF.of_owns hown
      have Hin : Hid (Z.getD k 0 ∈ X → metOk Z X (k + 1)) := hidIt (fun h => ⟨hm.out.1, by have := hm.out.2.1; omega, fun j hj => by
        by_cases h2 : j = k
        · subst h2; exact h
        · exact hm.out.2.2 j (by omega)⟩)
      have Hout : Hid (Z.getD k 0 ∉ X → metOk Z (X ++ [Z.getD k 0]) (k + 1) ∧ sumK Z (X ++ [Z.getD k 0]) = sumK Z X + countK Z (Z.getD k 0)) := hidIt (fun h => ⟨⟨List.nodup_append.2 ⟨hm.out.1, by simp, fun x hx y hy => by rw [List.mem_singleton.1 hy]; rintro rfl; exact h hx⟩, by have := hm.out.2.1; simp; omega, fun j hj => by
        by_cases h2 : j = k
        · subst h2; simp
        · exact List.mem_append.2 (.inl (hm.out.2.2 j (by omega)))⟩, sumK_snoc _ _ _⟩)
      have keyH := hasL_calls (.slice am X.length cm) X (Z.getD k 0) wr hsX
      clear hm hsX
      have hcz : countK Z (Z.getD k 0) ≤ 3000 := Nat.le_trans (List.length_filter_le _ _) hl
      have kT' := kT (Z.getD k 0)
      have Hdec : Hid (decide (Z.getD k 0 ∈ X) = true → Z.getD k 0 ∈ X) := hidIt (fun h => by simpa using h)
      have Hdec2 : Hid (decide (Z.getD k 0 ∈ X) = false → Z.getD k 0 ∉ X) := hidIt (fun h => by simpa using h)
      generalize decide (Z.getD k 0 ∈ X) = q at *
      generalize Z.getD k 0 = x at *
      generalize hsK : sumK Z X = T at *
      go_wp2_with fail
      refine keyH.mono ?_
      rintro e w3 ⟨rfl, hf3⟩
      have hF3 := hF.trans0 hf3
      have hG3 := hF2.trans0 hf3
      have hown3 := owns_fr hown hf3 (by simp)
      have hz3 := hf3.size
      cases q
      · obtain ⟨hmo, hsm⟩ := Hout.out (Hdec2.out rfl)
        replace hmo := hidIt hmo
        replace hsm := hidIt hsm
        clear Hin Hout Hdec Hdec2 keyH
        go_wp2_with (at_builtin; refine Hid.out ?_)
        refine hidIt ?_
        refine wpList_append1 27 3 (.int .i64 0) 1 8 Try.underlying27 infoInt rfl (by decide) (by decide) rfl _ _ rfl w2.heap.size _ X.length _ rfl (hown3.alloc _) (intC x) rfl int_one w3.heap.size rfl (Blk.new _ _ _) (by omega) (by simp; omega) ?_
        intro v4 w4 hown4 hgrow4 hloc4
        have hF4 : Fr [] w w4 := (hF3.alloc (.cells #[.int .i64 x] 3)).grown hgrow4 (fun y hy => .inr (by have := hob y hy; omega))
        have hG4 : Fr [] w2 w4 := (hG3.alloc (.cells #[.int .i64 x] 3)).grown hgrow4 (fun y hy => .inr (hob y hy))
        have keyT := kT' w4 (SlF.fr0 hv hF4)
        obtain ⟨a4, c4, rfl, _, _, _⟩ := Sl.of_owns hown4
        generalize countK Z x = cc at *
        have hw1 : IntKind.i64.wrap ((T : Int) + (cc : Int)) = (T : Int) + (cc : Int) := IntWalk.i64_in _ (by omega)
        clear kT kT' hown hown3 hgrow4
        go_wp2_with fail
        refine keyT.mono ?_
        rintro e w5 ⟨rfl, hf5⟩
        have hown5 := owns_fr hown4 hf5 (by simp)
        go_wp2
        go_roundw
        case rel => exact ⟨k + 1, X ++ [x], by omega, by go_num, by rw [hsm.out]; go_num, by rw [List.length_append, List.flatMap_append]; simpa using hown5, hmo, hG4.trans0 hf5, hF4.trans0 hf5⟩
        case measure => simp [intOf]; omega
      · have hmo := hidIt (Hin.out (Hdec.out rfl))
        clear Hin Hout Hdec Hdec2 keyH kT kT'
        go_wp2
        go_roundw
        case rel => exact ⟨k + 1, X, by omega, by go_num, by rw [hsK], hown3, hmo, hG3, hF3⟩
        case measure => simp [intOf]; omega
    · have hke : k = Z.length := by omega
      have hEq : Hid (sumK Z X = Z.length) := hidIt (sumK_all X hm.out.1 Z (fun z hz => by
        obtain ⟨i, hi, he⟩ := List.getElem_of_mem hz
        have := hm.out.2.2 i (by omega)
        rw [List.getD_eq_getElem?_getD, List.getElem?_eq_getElem hi, he] at this
        exact this))
      rw [hEq.out]
      clear hm hke hEq hsum
      go_wp2_with fail
      refine (aliveL_calls _).mono ?_
      rintro e w3 ⟨rfl, hf3⟩
      have hF3 := hF.trans0 hf3
      go_wp2_with fail
      refine (kL w3 (SlF.fr0 hv hF3)).mono ?_
      rintro e w4 ⟨rfl, hf4⟩
      go_wp2
      go_ret
      exact ⟨rfl, hF3.trans0 hf4⟩
end Go.Proofs.Ytkammkbjkojfmaa
