/-
  Package bits: each, over the closures of Set and Clear.
-/
import Derived.Test.YtfmolbgfhchdkaaBitB
namespace Go.Proofs.Ytfmolbgfhchdkaa
open Go.RowKit Go.Maps
attribute [local go_sem] mapAt_alloc mapAt_setCell mapAt_drew mapAt_drewN

/-- the granules from a on, up to k, are b -/
def fillB (b : Bool) (l : List Bool) (a k : Nat) : List Bool := (List.range l.length).map fun i => if a ≤ i ∧ i < k then b else l.getD i false
theorem fillB_len (b : Bool) (l : List Bool) (a k : Nat) : (fillB b l a k).length = l.length := by simp [fillB]
theorem fillB_getD (b : Bool) (l : List Bool) (a k i : Nat) (hi : i < l.length) : (fillB b l a k).getD i false = if a ≤ i ∧ i < k then b else l.getD i false := by
  unfold fillB
  rw [List.getD_eq_getElem?_getD, List.getElem?_map, List.getElem?_range hi]
  rfl
theorem extB {l l' : List Bool} (h : l.length = l'.length) (hi : ∀ i, i < l.length → l.getD i false = l'.getD i false) : l = l' := by
  apply List.ext_getElem h
  intro i h1 h2
  have := hi i h1
  rwa [List.getD_eq_getElem?_getD, List.getD_eq_getElem?_getD, List.getElem?_eq_getElem h1, List.getElem?_eq_getElem h2] at this
theorem fillB_start (b : Bool) (l : List Bool) (a k : Nat) (h : k ≤ a) : fillB b l a k = l := extB (fillB_len ..) fun i hi => by
  rw [fillB_len] at hi
  rw [fillB_getD _ _ _ _ _ hi, if_neg (by omega)]
theorem fillB_step (b : Bool) (l : List Bool) (a k : Nat) (ha : a ≤ k) (hk : k < l.length) : fillB b l a (k + 1) = (fillB b l a k).set k b := extB (by simp [fillB_len]) fun i hi => by
  rw [fillB_len] at hi
  rw [getD_setB _ _ _ _ (by rw [fillB_len]; exact hk), fillB_getD _ _ _ _ _ hi, fillB_getD _ _ _ _ _ hi]
  by_cases h1 : i = k
  · subst h1; rw [if_pos ⟨ha, by omega⟩, if_pos rfl]
  · rw [if_neg h1]
    by_cases h2 : a ≤ i ∧ i < k
    · rw [if_pos h2, if_pos ⟨h2.1, by omega⟩]
    · rw [if_neg h2, if_neg (by omega)]
def insideB (S : Nat) (f n : Int) : Prop := 0 ≤ n ∧ 0 ≤ f ∧ n ≤ S ∧ f ≤ S - n
set_option maxRecDepth 100000 in
set_option maxHeartbeats 1600000 in
theorem each_set (tb mb S g cb : Nat) (l : List Bool) (f n : Int) (a : Nat) (e : Int) (w : World) (h : BitW w tb mb S g l) (B : Blk w cb [.pointer (some ⟨tb, 0, none⟩)] 25)
    (hin : insideB S f n) (ha : a ≤ 1000000) (he : e ≤ l.length) :
    Calls Try.prog 36 #[.pointer (some ⟨tb, 0, none⟩), .int .i64 f, .int .i64 n, .int .i64 (a : Int), .int .i64 e, .func (.func 38) #[] #[.pointer (some ⟨cb, 0, none⟩)]] w
      fun r w' => r = .returned (.int .i64 0) ∧ BitW w' tb mb S g (fillB true l a e.toNat) ∧ Fr [mb] w w' := by
  have ct := h.blk.cell
  have hS := h.size
  have hle := gran_le h.size h.grain.1
  have hlen := h.len
  obtain ⟨h1, h2, h3, h4⟩ := hin
  have n1 : ¬ n < 0 := by omega
  have n2 : ¬ f < 0 := by omega
  have n3 : ¬ (S : Int) < n := by omega
  have n4 : ¬ (S : Int) - n < f := by omega
  have hcb : cb ≠ mb := by
    rintro rfl
    obtain ⟨es, c, hm, _⟩ := h.map
    have := (mapAt_some.1 hm).symm.trans B
    cases this
  go_enter Try.func36, Try.ntmps36
  go_wp2_with fail
  go_loopw [13] (fun i wr => ∃ k : Nat, a ≤ k ∧ (k ≤ e.toNat ∨ k = a) ∧ i = .int .i64 k ∧ BitW wr tb mb S g (fillB true l a k) ∧ Fr [mb] w wr) (fun i _ => e.toNat - (intOf i).toNat)
  case atStart => exact ⟨a, Nat.le_refl _, .inr rfl, rfl, by rw [fillB_start _ _ _ _ (Nat.le_refl _)]; exact h, Fr.refl _ _⟩
  case round =>
    obtain ⟨k, hak, hke, rfl, hB, hF⟩ := hrel
    by_cases hlt : (k : Int) < e
    · have hkl : k < l.length := by omega
      have Hst := hidIt (fillB_step true l a k hak hkl)
      have B' := B.fr hF (by simp; exact hcb)
      have hkl2 : k < (fillB true l a k).length := by rw [fillB_len]; exact hkl
      generalize fillB true l a k = l' at *
      go_wp2_with fail
      refine (set1_calls tb mb S g cb l' k _ hB hkl2 B').mono ?_
      rintro r w2 ⟨⟨v, rfl⟩, hB2, hf⟩
      go_wp2
      go_roundw
      case rel => exact ⟨k + 1, by omega, by omega, by go_num, by rw [Hst.out]; exact hB2, hF.trans' hf⟩
      case measure => simp [intOf]; omega
    · have Hk : Hid (fillB true l a e.toNat = fillB true l a k) := hidIt (by
        rcases hke with hke | rfl
        · have : k = e.toNat := by omega
          rw [this]
        · rw [fillB_start _ _ _ _ (Nat.le_refl _), fillB_start _ _ _ _ (by omega)])
      go_wp2
      go_ret
      exact ⟨rfl, by rw [Hk.out]; exact hB, hF⟩
set_option maxRecDepth 100000 in
set_option maxHeartbeats 1600000 in
theorem each_clear (tb mb S g cb : Nat) (l : List Bool) (f n : Int) (a : Nat) (e : Int) (w : World) (h : BitW w tb mb S g l) (B : Blk w cb [.pointer (some ⟨tb, 0, none⟩)] 25)
    (hin : insideB S f n) (ha : a ≤ 1000000) (he : e ≤ l.length) :
    Calls Try.prog 36 #[.pointer (some ⟨tb, 0, none⟩), .int .i64 f, .int .i64 n, .int .i64 (a : Int), .int .i64 e, .func (.func 37) #[] #[.pointer (some ⟨cb, 0, none⟩)]] w
      fun r w' => r = .returned (.int .i64 0) ∧ BitW w' tb mb S g (fillB false l a e.toNat) ∧ Fr [mb] w w' := by
  have ct := h.blk.cell
  have hS := h.size
  have hle := gran_le h.size h.grain.1
  have hlen := h.len
  obtain ⟨h1, h2, h3, h4⟩ := hin
  have n1 : ¬ n < 0 := by omega
  have n2 : ¬ f < 0 := by omega
  have n3 : ¬ (S : Int) < n := by omega
  have n4 : ¬ (S : Int) - n < f := by omega
  have hcb : cb ≠ mb := by
    rintro rfl
    obtain ⟨es, c, hm, _⟩ := h.map
    have := (mapAt_some.1 hm).symm.trans B
    cases this
  go_enter Try.func36, Try.ntmps36
  go_wp2_with fail
  go_loopw [13] (fun i wr => ∃ k : Nat, a ≤ k ∧ (k ≤ e.toNat ∨ k = a) ∧ i = .int .i64 k ∧ BitW wr tb mb S g (fillB false l a k) ∧ Fr [mb] w wr) (fun i _ => e.toNat - (intOf i).toNat)
  case atStart => exact ⟨a, Nat.le_refl _, .inr rfl, rfl, by rw [fillB_start _ _ _ _ (Nat.le_refl _)]; exact h, Fr.refl _ _⟩
  case round =>
    obtain ⟨k, hak, hke, rfl, hB, hF⟩ := hrel
    by_cases hlt : (k : Int) < e
    · have hkl : k < l.length := by omega
      have Hst := hidIt (fillB_step false l a k hak hkl)
      have B' := B.fr hF (by simp; exact hcb)
      have hkl2 : k < (fillB false l a k).length := by rw [fillB_len]; exact hkl
      generalize fillB false l a k = l' at *
      go_wp2_with fail
      refine (clear1_calls tb mb S g cb l' k _ hB hkl2 B').mono ?_
      rintro r w2 ⟨⟨v, rfl⟩, hB2, hf⟩
      go_wp2
      go_roundw
      case rel => exact ⟨k + 1, by omega, by omega, by go_num, by rw [Hst.out]; exact hB2, hF.trans' hf⟩
      case measure => simp [intOf]; omega
    · have Hk : Hid (fillB false l a e.toNat = fillB false l a k) := hidIt (by
        rcases hke with hke | rfl
        · have : k = e.toNat := by omega
          rw [this]
        · rw [fillB_start _ _ _ _ (Nat.le_refl _), fillB_start _ _ _ _ (by omega)])
      go_wp2
      go_ret
      exact ⟨rfl, by rw [Hk.out]; exact hB, hF⟩
set_option maxRecDepth 100000 in
set_option maxHeartbeats 1600000 in
theorem each_no (tb mb S g : Nat) (l : List Bool) (f n a e : Int) (v : Value) (w : World) (h : BitW w tb mb S g l) (fw : -9223372036854775808 ≤ n ∧ n ≤ 9223372036854775807) (hin : ¬ insideB S f n) :
    Calls Try.prog 36 #[.pointer (some ⟨tb, 0, none⟩), .int .i64 f, .int .i64 n, .int .i64 a, .int .i64 e, v] w
      fun r w' => r = .returned (.int .i64 1) ∧ w = w' := by
  have ct := h.blk.cell
  have hS := h.size
  by_cases h1 : n < 0
  · go_enter Try.func36, Try.ntmps36
    go_wp2
    go_ret
    exact ⟨rfl, rfl⟩
  · by_cases h2 : f < 0
    · go_enter Try.func36, Try.ntmps36
      go_wp2
      go_ret
      exact ⟨rfl, rfl⟩
    · by_cases h3 : (S : Int) < n
      · go_enter Try.func36, Try.ntmps36
        go_wp2
        go_ret
        exact ⟨rfl, rfl⟩
      · have h4 : (S : Int) - n < f := by
          unfold insideB at hin
          omega
        go_enter Try.func36, Try.ntmps36
        go_wp2
        go_ret
        exact ⟨rfl, rfl⟩
end Go.Proofs.Ytfmolbgfhchdkaa
