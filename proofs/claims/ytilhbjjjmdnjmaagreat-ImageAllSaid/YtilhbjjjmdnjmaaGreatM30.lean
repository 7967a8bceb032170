/-
  files.Right: which names may be.
-/
import Derived.Test.YtilhbjjjmdnjmaaGreatM00
import Derived.Test.YtilhbjjjmdnjmaaGreatM03
import Derived.Laws.RangeAny
namespace Go.Proofs.YtilhbjjjmdnjmaaGreat
open Go.RowKit Go.Maps

theorem all_take {s : List UInt8} {k : Nat} (h : (s.take k).all okSign = true) (hk : k < s.length) (hx : okSign (s.getD k 0) = true) : (s.take (k + 1)).all okSign = true := by
  rw [List.take_add_one, List.all_append, h]
  rw [List.getD_eq_getElem?_getD, List.getElem?_eq_getElem hk] at hx
  rw [List.getElem?_eq_getElem hk]
  simpa using hx
theorem all_not {s : List UInt8} {k : Nat} (hk : k < s.length) (hx : okSign (s.getD k 0) = false) : okName s = false := by
  have hm : s.getD k 0 ∈ s := by
    rw [List.getD_eq_getElem?_getD, List.getElem?_eq_getElem hk]
    exact List.getElem_mem hk
  unfold okName
  cases ha : s.all okSign with
  | false => rfl
  | true =>
    have := List.all_eq_true.1 ha _ hm
    rw [hx] at this
    cases this
theorem iter_fr (w : World) (S : ByteArray) (p : Nat) : Fr [] w (w.iter S p) := (Fr.refl _ _).alloc _
set_option maxRecDepth 100000 in
set_option maxHeartbeats 1600000 in
theorem nRight_calls (s : List UInt8) (w : World) : Calls Tryz.prog 53 #[strL s] w fun e w' => e = .returned (.bool (okName s)) ∧ Fr [] w w' := by
  obtain ⟨S, hS⟩ : ∃ S : ByteArray, S = ⟨s.toArray⟩ := ⟨_, rfl⟩
  have hsz : S.size = s.length := by rw [hS]; simp [ByteArray.size]
  have hat : ∀ k (h : k < S.size), (S[k]'h).toNat = (s.getD k 0).toNat := by
    subst hS
    intro k h
    rw [List.getD_eq_getElem?_getD, List.getElem?_eq_getElem (by rw [← hsz]; exact h)]
    simp [ByteArray.getElem_eq_getElem_data]
  have hv : strL s = .string S := by rw [hS]; rfl
  have hlen := len_str s
  rw [hv] at hlen ⊢
  clear hS hv
  go_enter Tryz.func53, Tryz.ntmps53
  go_wp2_with fail
  go_loopw [] (fun wr => ∃ pos : Nat, pos ≤ s.length ∧ wr = w.iter S pos ∧ (s.take pos).all okSign = true) (fun wr => s.length - wr.iterPos w.heap.size)
  case atStart => exact ⟨0, by omega, rfl, by simp⟩
  case round =>
    obtain ⟨pos, hpos, rfl, hall⟩ := hrel
    have hfr := iter_fr w S pos
    by_cases hp : pos < s.length
    · have hp' : pos < S.size := by omega
      have hb := hat pos hp'
      by_cases hasc : (s.getD pos 0).toNat < 128
      · have hnx := fun ty => run_next_ascii (P := Tryz.prog) w S pos ty hp' (by rw [hb]; exact hasc)
        rw [hb] at hnx
        obtain ⟨v, hv⟩ : ∃ v, (s.getD pos 0).toNat = v := ⟨_, rfl⟩
        rw [hv] at hnx hasc
        have hk : okSign (s.getD pos 0) = ((decide (97 ≤ v) && decide (v ≤ 122)) || (decide (48 ≤ v) && decide (v ≤ 57)) || decide (v = 46) || decide (v = 45)) := by unfold okSign; rw [hv]
        have hok := hidIt hk
        clear hk
        have hfr' := iter_fr w S (pos + 1)
        clear hb hv
        go_wp2
        all_goals first
          | (go_ret
             refine ⟨ret_bool (all_not hp ?_).symm, hfr'⟩
             rw [hok.out]
             try simp only [bne_iff_ne, ne_eq] at *
             simp
             omega)
          | (go_roundw
             case rel =>
               refine ⟨pos + 1, by omega, rfl, all_take hall hp ?_⟩
               rw [hok.out]
               try simp only [bne_eq_false_iff_eq] at *
               simp
               omega
             case measure => simp; omega)
      · have hnx := fun ty => run_next_any (P := Tryz.prog) w S pos ty hp'
        have hhi := decode_high S pos hp' (by rw [hb]; omega)
        have hR := decode_le S pos
        obtain ⟨R, hR'⟩ : ∃ R, (Utf8.decode S pos).1 = R := ⟨_, rfl⟩
        obtain ⟨K, hK'⟩ : ∃ K, (Utf8.decode S pos).2 = K := ⟨_, rfl⟩
        rw [hR', hK'] at hnx
        rw [hR'] at hhi hR
        have hfr' := iter_fr w S (pos + K)
        have hno : okName s = false := all_not hp (by
          have : ¬ (s.getD pos 0).toNat < 128 := hasc
          generalize s.getD pos 0 = x at this
          unfold okSign
          simp
          omega)
        have hNo := hidIt hno
        clear hno
        clear hb hK' hR'
        have r1 : ¬ (R : Int) < 97 := by omega
        have r2 : (122 : Int) < R := by omega
        have r3 : ¬ (R : Int) < 48 := by omega
        have r4 : (57 : Int) < R := by omega
        have r5 : ((R : Int) != 46) = true := by rw [bne_iff_ne]; omega
        have r6 : ((R : Int) != 45) = true := by rw [bne_iff_ne]; omega
        go_wp2
        go_ret
        exact ⟨ret_bool hNo.out.symm, hfr'⟩
    · have hnx := fun ty => run_next_end (P := Tryz.prog) w S pos ty (by omega)
      have hall' : okName s = (decide (1 ≤ s.length) && decide (s.length ≤ 15)) := by
        rw [List.take_of_length_le (by omega)] at hall
        unfold okName
        rw [hall, Bool.true_and]
      have hAll := hidIt hall'
      clear hall'
      go_wp2
      all_goals go_ret
      all_goals refine ⟨ret_bool ?_, hfr⟩
      all_goals rw [hAll.out, Bool.eq_iff_iff]
      all_goals simp
      all_goals omega
end Go.Proofs.YtilhbjjjmdnjmaaGreat
