/-
  The reference of layer 10: inside, New; law10.few.
-/
import Derived.Test.YtfmolbgfhchdkaaBitI
import Derived.Test.YtfmolbgfhchdkaaBools
namespace Go.Proofs.Ytfmolbgfhchdkaa
open Go.RowKit Go.Maps

theorem infoBool : (Try.prog.info? 4).map (fun i => (i.zero, i.size, i.bytes)) = some (some (.bool false), 1, 1) := by kernel_rfl
set_option maxHeartbeats 400000 in
theorem inside_calls (S g : Nat) (v : Value) (f n : Int) (w : World) (hS : S ≤ 4096) (fw : -9223372036854775808 ≤ n ∧ n ≤ 9223372036854775807) :
    Calls Try.prog 59 #[.agg #[.int .i64 S, .int .i64 g, v], .int .i64 f, .int .i64 n] w fun e w' => e = .returned (.bool (decide (insideB S f n))) ∧ Fr [] w w' := by
  have H : Hid (insideB S f n ↔ 0 ≤ n ∧ 0 ≤ f ∧ n ≤ S ∧ f ≤ S - n) := hidIt Iff.rfl
  have B3 := Blk.new w [.int .i64 S, .int .i64 g, v] 28
  have c3 := B3.cell
  by_cases h1 : n < 0
  · have hd : decide (insideB S f n) = false := by simp; intro h; have := h.1; omega
    rw [hd]
    clear H hd
    go_enter Try.func59, Try.ntmps59
    go_wp2
    go_ret
    exact ⟨rfl, (Fr.refl _ _).alloc _⟩
  · by_cases h2 : f < 0
    · have hd : decide (insideB S f n) = false := by simp; intro h; have := h.2.1; omega
      rw [hd]
      clear H hd
      have h1' : 0 ≤ n := by omega
      go_enter Try.func59, Try.ntmps59
      go_wp2
      go_ret
      exact ⟨rfl, (Fr.refl _ _).alloc _⟩
    · have h1' : 0 ≤ n := by omega
      have h2' : 0 ≤ f := by omega
      by_cases h3 : n ≤ S
      · have hd : decide (insideB S f n) = decide (f ≤ (S : Int) - n) := by rw [decide_eq_decide]; rw [H.out]; omega
        rw [hd]
        clear H hd h1 h2
        go_enter Try.func59, Try.ntmps59
        go_wp2
        go_ret
        exact ⟨rfl, (Fr.refl _ _).alloc _⟩
      · have hd : decide (insideB S f n) = false := by simp; intro h; have := h.2.2.1; omega
        rw [hd]
        clear H hd h1 h2
        have h3' : (S : Int) < n := by omega
        go_enter Try.func59, Try.ntmps59
        go_wp2
        go_ret
        exact ⟨rfl, (Fr.refl _ _).alloc _⟩
def fewO (o : Op3) : Bool := !(decide (o.1 = 2) && decide (100 < o.2.2) && decide (o.2.2 ≤ 4096))
def fewS (s : Int) (l : List Op3) : Bool := l.all fewO && (decide (l.length ≤ 60) && (decide (s ≤ 100) || decide (4096 < s)))
set_option maxRecDepth 100000 in
set_option maxHeartbeats 1600000 in
theorem few_calls (s : Int) (v : Value) (l : List Op3) (w : World) (hv : SlP w v l) : Calls Try.prog 19 #[.int .i64 s, v] w fun e w' => e = .returned (.bool (fewS s l)) ∧ Fr [] w w' := by
  obtain ⟨a, cap, rfl, hlc, hcm, _⟩ := hv.open
  unfold maxLen at hcm
  have Hf : Hid (fewS s l = (l.all fewO && (decide (l.length ≤ 60) && (decide (s ≤ 100) || decide (4096 < s))))) := hidIt (by unfold fewS; rfl)
  go_enter Try.func19, Try.ntmps19
  go_wp2
  go_loopw [9] (fun i wr => ∃ k : Nat, k ≤ l.length ∧ i = .int .i64 k ∧ (l.take k).all fewO = true ∧ Fr [] w wr) (fun i _ => l.length - (intOf i).toNat)
  case atStart => exact ⟨0, Nat.zero_le _, rfl, by simp, Fr.refl _ _⟩
  case round =>
    obtain ⟨k, hk, rfl, hall, hF⟩ := hrel
    by_cases hlt : k < l.length
    · obtain ⟨b, off, rfl, hb, c0, c1, c2⟩ := SlP.at (hv.fr0 hF) hlt
      have hge : l[k]? = some (l.getD k z3) := getD_some z3 hlt
      have Hn : Hid (fewO (l.getD k z3) = true → (l.take (k + 1)).all fewO = true) := hidIt (fun h => by rw [List.take_add_one, List.all_append, hall, hge]; simpa using h)
      have Hno : Hid (fewO (l.getD k z3) = false → fewS s l = false) := hidIt (fun h => by
        rw [Hf.out]
        have : l.all fewO = false := by
          rw [Bool.eq_false_iff]
          intro hA
          rw [List.all_eq_true] at hA
          have := hA _ (List.mem_of_getElem? hge)
          rw [h] at this
          cases this
        rw [this]; rfl)
      clear hge
      generalize l.getD k z3 = o at *
      obtain ⟨p, q, r⟩ := o
      simp only at c0 c1 c2
      have Ho : Hid (fewO (p, q, r) = !(decide (p = 2) && decide (100 < r) && decide (r ≤ 4096))) := hidIt rfl
      generalize fewO (p, q, r) = fo at *
      by_cases h1 : p = 2
      · by_cases h2 : 100 < r
        · by_cases h3 : r ≤ 4096
          · have hfo : fo = false := by rw [Ho.out]; simp [h1, h2, h3]
            have Hno := hidIt (Hno.out hfo)
            clear Hn Ho hfo Hf hall
            subst h1
            go_wp2
            go_ret
            exact ⟨ret_bool Hno.out.symm, hF.alloc _⟩
          · have hfo : fo = true := by rw [Ho.out]; simp [h1, h2]; omega
            have Hn := hidIt (Hn.out hfo)
            clear Ho hfo Hf Hno hall
            subst h1
            go_wp2
            go_roundw
            case rel => exact ⟨k + 1, by omega, by go_num, Hn.out, hF.alloc _⟩
            case measure => simp [intOf]; omega
        · have hfo : fo = true := by rw [Ho.out]; simp [h1]; omega
          have Hn := hidIt (Hn.out hfo)
          clear Ho hfo Hf Hno hall
          subst h1
          go_wp2
          go_roundw
          case rel => exact ⟨k + 1, by omega, by go_num, Hn.out, hF.alloc _⟩
          case measure => simp [intOf]; omega
      · have hfo : fo = true := by rw [Ho.out]; simp [h1]
        have Hn := hidIt (Hn.out hfo)
        clear Ho hfo Hf Hno hall
        go_wp2
        go_roundw
        case rel => exact ⟨k + 1, by omega, by go_num, Hn.out, hF.alloc _⟩
        case measure => simp [intOf]; omega
    · have hke : k = l.length := by omega
      rw [hke, List.take_length] at hall
      rw [hall] at Hf
      clear hall hke
      go_wp2
      all_goals go_ret
      all_goals refine ⟨ret_bool ?_, hF⟩
      all_goals rw [Hf.out, Bool.eq_iff_iff]
      all_goals simp
      all_goals omega
end Go.Proofs.Ytfmolbgfhchdkaa
