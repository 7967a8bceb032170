/-
  Package bits: Resize; any call of a script.
-/
import Derived.Test.YtfmolbgfhchdkaaBitH
namespace Go.Proofs.Ytfmolbgfhchdkaa
open Go.RowKit Go.Maps
attribute [local go_sem] mapAt_alloc mapAt_setCell mapAt_drew mapAt_drewN

def rzB (S g : Nat) (l : List Bool) (n : Nat) : List Bool := if S < n then bSet n g (cutB l (gran n g)) S (n - S) else cutB l (gran n g)
theorem cutB_len (l : List Bool) (G : Nat) : (cutB l G).length = G := by simp [cutB]
set_option maxHeartbeats 400000 in
theorem Resize_no (tb mb S g : Nat) (l : List Bool) (s : Int) (w : World) (_ : BitW w tb mb S g l) (hs : okSec s = false) :
    Calls Try.prog 34 #[.pointer (some ⟨tb, 0, none⟩), .int .i64 s] w fun r w' => r = .returned (.int .i64 1) ∧ Fr [] w w' := by
  go_enter Try.func34, Try.ntmps34
  go_wp2_with fail
  refine (right_calls _ _).mono ?_
  rintro e w1 ⟨rfl, rfl⟩
  rw [hs]
  go_wp2
  go_ret
  exact ⟨rfl, (Fr.refl _ _).alloc _⟩
set_option maxRecDepth 100000 in
set_option maxHeartbeats 1600000 in
theorem Resize_yes (tb mb S g : Nat) (l : List Bool) (n : Nat) (w : World) (h : BitW w tb mb S g l) (hn : n ≤ 4096) :
    Calls Try.prog 34 #[.pointer (some ⟨tb, 0, none⟩), .int .i64 (n : Int)] w fun r w' => r = .returned (.int .i64 0) ∧ BitW w' tb mb n g (rzB S g l n) ∧ Fr [tb, mb] w w' := by
  have hS := h.size
  have hg := h.grain
  have hlen := h.len
  have hle := gran_le h.size hg.1
  obtain ⟨hlt, hmlt⟩ := h.lt
  have hne := h.ne
  have hok : okSec n = true := by simp [okSec]; omega
  have B2 := Blk.new w [.pointer (some ⟨tb, 0, none⟩)] 25
  have c2 := B2.cell
  have B0 := h.blk.alloc (.cells #[.pointer (some ⟨tb, 0, none⟩)] 25)
  have ct := B0.cell
  have ft := B0.frozen
  obtain ⟨es, clock, hm, hi⟩ := h.map
  have Hrz : Hid (rzB S g l n = if S < n then bSet n g (cutB l (gran n g)) S (n - S) else cutB l (gran n g)) := hidIt (by unfold rzB; rfl)
  go_enter Try.func34, Try.ntmps34
  go_wp2_with fail
  refine (right_calls _ _).mono ?_
  rintro e w1 ⟨rfl, rfl⟩
  rw [hok]
  have Bn := (h.blk.setCell 0 (.int .i64 (n : Int))).alloc (.cells #[.pointer (some ⟨tb, 0, none⟩)] 25)
  have Cn := Blk.new' (w := w.setCell ⟨tb, 0, none⟩ (.int .i64 (n : Int))) (n := w.heap.size) (by simp) [.pointer (some ⟨tb, 0, none⟩)] 25
  have cn := Bn.cell
  have dn := Cn.cell
  simp only [List.set_cons_zero] at Bn cn
  have hfn : Fr [tb] w ((w.setCell ⟨tb, 0, none⟩ (.int .i64 (n : Int))).alloc (.cells #[.pointer (some ⟨tb, 0, none⟩)] 25)) := ((Fr.refl _ w).setCell (.inl (by simp)) _).alloc _
  have hmn := mapAt_fr hm hfn (by simp; exact fun e => hne e.symm)
  go_wp2_with fail
  refine (DeleteFunc_calls tb mb n g w.heap.size l _ Bn Cn hn hg (by omega) hmn hi).mono ?_
  rintro r w2 ⟨⟨v, rfl⟩, hf2, es', clock', hm2, hi2⟩
  have hF2 : Fr [tb, mb] w w2 := (hfn.mono (by simp)).trans hf2 (by simp)
  have W2 : BitW w2 tb mb n g (cutB l (gran n g)) := ⟨Bn.fr hf2 (by simp; exact hne), hn, hg, cutB_len _ _, es', clock', hm2, hi2⟩
  have C2 := (Cn.fr hf2 (by simp; omega)).cell
  clear hfn hmn hm hi hi2 hm2
  by_cases hlt2 : S < n
  · rw [if_pos hlt2] at Hrz
    have e1 : (n : Int) - S = ((n - S : Nat) : Int) := by omega
    go_wp2_with fail
    refine (Set_yes tb mb n g _ S (n - S) _ W2 (by omega)).mono ?_
    rintro r w3 ⟨rfl, hW3, hf3⟩
    go_wp2
    go_ret
    exact ⟨rfl, by rw [Hrz.out]; exact hW3, hF2.trans hf3 (by simp)⟩
  · rw [if_neg hlt2] at Hrz
    go_wp2
    go_ret
    exact ⟨rfl, by rw [Hrz.out]; exact W2, hF2⟩
instance (S : Nat) (f n : Int) : Decidable (insideB S f n) := inferInstanceAs (Decidable (_ ∧ _ ∧ _ ∧ _))
/-- a call of a script: what there is behind it, and what it answers -/
def doS (g : Nat) (st : Nat × List Bool) (o : Int × Int × Int) : (Nat × List Bool) × Int :=
  if o.1 = 0 then (if insideB st.1 o.2.1 o.2.2 then ((st.1, bSet st.1 g st.2 o.2.1.toNat o.2.2.toNat), 0) else (st, 1))
  else if o.1 = 1 then (if insideB st.1 o.2.1 o.2.2 then ((st.1, bClear st.1 g st.2 o.2.1.toNat o.2.2.toNat), 0) else (st, 1))
  else if o.1 = 2 then (if okSec o.2.2 = true then ((o.2.2.toNat, rzB st.1 g st.2 o.2.2.toNat), 0) else (st, 1))
  else (st, 0)
theorem Set_calls (tb mb S g : Nat) (l : List Bool) (f n : Int) (w : World) (h : BitW w tb mb S g l) (fw : -9223372036854775808 ≤ n ∧ n ≤ 9223372036854775807) :
    Calls Try.prog 17 #[.pointer (some ⟨tb, 0, none⟩), .int .i64 f, .int .i64 n] w
      fun r w' => r = .returned (.int .i64 (doS g (S, l) (0, f, n)).2) ∧ BitW w' tb mb (doS g (S, l) (0, f, n)).1.1 g (doS g (S, l) (0, f, n)).1.2 ∧ Fr [mb] w w' := by
  by_cases hin : insideB S f n
  · obtain ⟨f, rfl⟩ := Int.eq_ofNat_of_zero_le hin.2.1
    obtain ⟨n, rfl⟩ := Int.eq_ofNat_of_zero_le hin.1
    have e : doS g (S, l) (0, (f : Int), (n : Int)) = ((S, bSet S g l f n), 0) := by simp [doS, hin]
    rw [e]
    exact Set_yes tb mb S g l f n w h (by have h1 := hin.2.2.1; have h2 := hin.2.2.2; omega)
  · have e : doS g (S, l) (0, f, n) = ((S, l), 1) := by simp [doS, hin]
    rw [e]
    refine (Set_no tb mb S g l f n w h fw hin).mono ?_
    rintro r w1 ⟨rfl, hf⟩
    exact ⟨rfl, h.fr0 hf, hf.weak⟩
theorem Clear_calls (tb mb S g : Nat) (l : List Bool) (f n : Int) (w : World) (h : BitW w tb mb S g l) (fw : -9223372036854775808 ≤ n ∧ n ≤ 9223372036854775807) :
    Calls Try.prog 15 #[.pointer (some ⟨tb, 0, none⟩), .int .i64 f, .int .i64 n] w
      fun r w' => r = .returned (.int .i64 (doS g (S, l) (1, f, n)).2) ∧ BitW w' tb mb (doS g (S, l) (1, f, n)).1.1 g (doS g (S, l) (1, f, n)).1.2 ∧ Fr [mb] w w' := by
  by_cases hin : insideB S f n
  · obtain ⟨f, rfl⟩ := Int.eq_ofNat_of_zero_le hin.2.1
    obtain ⟨n, rfl⟩ := Int.eq_ofNat_of_zero_le hin.1
    have e : doS g (S, l) (1, (f : Int), (n : Int)) = ((S, bClear S g l f n), 0) := by simp [doS, hin]
    rw [e]
    exact Clear_yes tb mb S g l f n w h (by have h1 := hin.2.2.1; have h2 := hin.2.2.2; omega)
  · have e : doS g (S, l) (1, f, n) = ((S, l), 1) := by simp [doS, hin]
    rw [e]
    refine (Clear_no tb mb S g l f n w h fw hin).mono ?_
    rintro r w1 ⟨rfl, hf⟩
    exact ⟨rfl, h.fr0 hf, hf.weak⟩
theorem Resize_calls (tb mb S g : Nat) (l : List Bool) (f n : Int) (w : World) (h : BitW w tb mb S g l) :
    Calls Try.prog 34 #[.pointer (some ⟨tb, 0, none⟩), .int .i64 n] w
      fun r w' => r = .returned (.int .i64 (doS g (S, l) (2, f, n)).2) ∧ BitW w' tb mb (doS g (S, l) (2, f, n)).1.1 g (doS g (S, l) (2, f, n)).1.2 ∧ Fr [tb, mb] w w' := by
  by_cases hin : okSec n = true
  · have hb : 0 ≤ n ∧ n ≤ 4096 := by simpa [okSec] using hin
    obtain ⟨n, rfl⟩ := Int.eq_ofNat_of_zero_le hb.1
    have e : doS g (S, l) (2, f, (n : Int)) = ((n, rzB S g l n), 0) := by simp [doS, hin]
    rw [e]
    exact Resize_yes tb mb S g l n w h (by omega)
  · have e : doS g (S, l) (2, f, n) = ((S, l), 1) := by simp [doS, hin]
    rw [e]
    refine (Resize_no tb mb S g l n w h (by simpa using hin)).mono ?_
    rintro r w1 ⟨rfl, hf⟩
    exact ⟨rfl, h.fr0 hf, hf.weak⟩
def goodOp (o : Int × Int × Int) : Prop := (-9223372036854775808 ≤ o.2.2 ∧ o.2.2 ≤ 9223372036854775807) ∧ (-9223372036854775808 ≤ o.2.1 ∧ o.2.1 ≤ 9223372036854775807)
def op3 (o : Int × Int × Int) : Value := .agg #[.int .i64 o.1, .int .i64 o.2.1, .int .i64 o.2.2]
set_option maxHeartbeats 800000 in
theorem does_calls (tb mb S g : Nat) (l : List Bool) (k f n : Int) (w : World) (h : BitW w tb mb S g l) (fw : goodOp (k, f, n)) :
    Calls Try.prog 12 #[.pointer (some ⟨tb, 0, none⟩), .agg #[.int .i64 k, .int .i64 f, .int .i64 n]] w
      fun r w' => r = .returned (.int .i64 (doS g (S, l) (k, f, n)).2) ∧ BitW w' tb mb (doS g (S, l) (k, f, n)).1.1 g (doS g (S, l) (k, f, n)).1.2 ∧ Fr [tb, mb] w w' := by
  have B3 := Blk.new w [.int .i64 k, .int .i64 f, .int .i64 n] 24
  have c3 := B3.cell
  have hF : Fr [tb, mb] w (w.alloc (.cells #[.int .i64 k, .int .i64 f, .int .i64 n] 24)) := (Fr.refl _ _).alloc _
  have h3 := h.fr0 ((Fr.refl [] w).alloc (.cells #[.int .i64 k, .int .i64 f, .int .i64 n] 24))
  by_cases k0 : k = 0
  · subst k0
    have key := Set_calls tb mb S g l f n _ h3 fw.1
    generalize doS g (S, l) (0, f, n) = d at key ⊢
    go_enter Try.func12, Try.ntmps12
    go_wp2_with fail
    refine key.mono ?_
    rintro r w1 ⟨rfl, hW, hf⟩
    go_wp2
    go_ret
    exact ⟨rfl, hW, hF.trans hf (by simp)⟩
  · by_cases k1 : k = 1
    · subst k1
      have key := Clear_calls tb mb S g l f n _ h3 fw.1
      generalize doS g (S, l) (1, f, n) = d at key ⊢
      go_enter Try.func12, Try.ntmps12
      go_wp2_with fail
      refine key.mono ?_
      rintro r w1 ⟨rfl, hW, hf⟩
      go_wp2
      go_ret
      exact ⟨rfl, hW, hF.trans hf (by simp)⟩
    · by_cases k2 : k = 2
      · subst k2
        have key := Resize_calls tb mb S g l f n _ h3
        generalize doS g (S, l) (2, f, n) = d at key ⊢
        go_enter Try.func12, Try.ntmps12
        go_wp2_with fail
        refine key.mono ?_
        rintro r w1 ⟨rfl, hW, hf⟩
        go_wp2
        go_ret
        exact ⟨rfl, hW, hF.trans' hf⟩
      · have e : doS g (S, l) (k, f, n) = ((S, l), 0) := by simp [doS, k0, k1, k2]
        rw [e]
        go_enter Try.func12, Try.ntmps12
        go_wp2
        go_ret
        exact ⟨rfl, h3, hF⟩
end Go.Proofs.Ytfmolbgfhchdkaa
