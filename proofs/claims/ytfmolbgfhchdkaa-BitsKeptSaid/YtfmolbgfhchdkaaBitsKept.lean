/-
  law10.BitsKept: the walk.
-/
import Derived.Test.YtfmolbgfhchdkaaBitsAllClear
namespace Go.Proofs.Ytfmolbgfhchdkaa
open Go.RowKit Go.Maps

theorem kept_is {S g : Nat} {l : List Bool} {f n s : Nat} (hg : 0 < g) (hl : l.length = gran S g) (hin : f + n ≤ S) (h1 : f ≤ s) (h2 : s < f + n) : isB S g (bSet S g l f n) s = true := by
  have hs : s < S := by omega
  have hk : s / g < l.length := by rw [hl]; exact gran_at hg hs
  have hd := Nat.div_mul_le_self s g
  have hd2 : s < s / g * g + g := by have := (div_le (X := s) (g := g) (k := s / g) hg).1 (Nat.le_refl _); exact this
  have : oneB S g f n (s / g) = true := by
    simp only [oneB, decide_eq_true_eq]
    omega
  unfold isB
  rw [Int.toNat_natCast, bSet_getD hk, this]
  simp
  omega
theorem kept_half {S g : Nat} {l : List Bool} {f h : Nat} (hg : 0 < g) (hl : l.length = gran S g) (hf : f < S) (hh : h + 1 = min g (S - f / g * g)) (hi : isB S g l f = true) : isB S g (bClear S g l (f / g * g) h) f = true := by
  have hk : f / g < l.length := by rw [hl]; exact gran_at hg hf
  have hd := Nat.div_mul_le_self f g
  have : allB S g (f / g * g) h (f / g) = false := by
    simp only [allB, Bool.and_eq_false_iff, decide_eq_false_iff_not]
    omega
  unfold isB at hi ⊢
  rw [Int.toNat_natCast] at hi ⊢
  rw [bClear_getD hk, this]
  simpa using hi
set_option maxRecDepth 100000 in
set_option maxHeartbeats 1600000 in
theorem BitsKept_no (g : Int) (v : Value) (l : List Op3) (p q r : Int) (w : World) (hv : SlP w v l) (h : okMade 40 g l = false) : Calls Try.prog 3 #[.int .i64 g, v, .agg #[.int .i64 p, .int .i64 q, .int .i64 r]] w fun e w' => e = .returned (.bool true) ∧ Fr [] w w' := by
  go_enter Try.func3, Try.ntmps3
  go_wp2_with fail
  refine (made_no 40 g v l _ (hv.fr0 ((Fr.refl _ _).alloc _)) h).mono ?_
  rintro e w1 ⟨x, y, a, n, c, rfl, hf⟩
  go_wp2_with fail
  refine (alive_calls _).mono ?_
  rintro e w2 ⟨rfl, hf2⟩
  go_wp2
  go_ret
  exact ⟨rfl, ((((Fr.refl _ _).alloc _).trans0 hf).alloc _).trans0 hf2⟩
set_option maxRecDepth 100000 in
set_option maxHeartbeats 1600000 in
theorem BitsKept_yes (g : Int) (v : Value) (l : List Op3) (p q r : Int) (w : World) (hv : SlP w v l) (hgood : ∀ o ∈ l, goodOp o) (h : okMade 40 g l = true) (hgq : goodOp (0, q, r)) : Calls Try.prog 3 #[.int .i64 g, v, .agg #[.int .i64 p, .int .i64 q, .int .i64 r]] w fun e w' => e = .returned (.bool true) ∧ Fr [] w w' := by
  have h1 : okNew 40 g = true := by simp [okMade] at h; exact h.1
  have h2 : fewS 40 l = true := by simp [okMade] at h; exact h.2
  have hp : pow2 g = true := by simp [okNew] at h1; exact h1.2
  have hg := pow2_le hp
  obtain ⟨G, rfl⟩ := Int.eq_ofNat_of_zero_le (by omega : 0 ≤ g)
  have key := made_yes 40 (G : Int) v l _ h1 (hv.fr0 ((Fr.refl _ _).alloc (.cells #[.int .i64 p, .int .i64 q, .int .i64 r] 24))) h2 hgood
  unfold madePost at key
  simp only [Int.toNat_natCast] at key
  generalize (stOf 40 (G : Int) l).1 = S at *
  generalize (stOf 40 (G : Int) l).2 = L at *
  go_enter Try.func3, Try.ntmps3
  go_wp2_with fail
  refine key.mono ?_
  rintro e w1 ⟨tb, mb, rv, rfl, hW, hR, ht, hm, hf⟩
  obtain ⟨x, y, a, n, c, rfl⟩ := hR.some
  simp only [World.size_alloc] at ht hm
  have B5 := (Blk.new w [.int .i64 p, .int .i64 q, .int .i64 r] 24).fr0 hf
  have hF := ((Fr.refl [] w).alloc (.cells #[.int .i64 p, .int .i64 q, .int .i64 r] 24)).trans0 hf
  have hS := hW.size
  have b5 := B5.cell
  have f5 := B5.frozen
  have l5 := B5.lt
  have hWlt := hW.lt
  have B50 := (B5.setCell 0 (.int .i64 0)).alloc (.cells #[.int .i64 x, .int .i64 y, .slice a n c] 28)
  have hfa : Fr [w.heap.size] w1 ((w1.setCell ⟨w.heap.size, 0, none⟩ (.int .i64 0)).alloc (.cells #[.int .i64 x, .int .i64 y, .slice a n c] 28)) := ((Fr.refl _ _).setCell (.inl (by simp)) _).alloc _
  replace hW := hW.fr hfa (by simp; omega) (by simp; omega)
  replace hF := hF.trans1 hfa (Nat.le_refl _)
  simp only [List.set_cons_zero] at B50
  have b50 := B50.cell
  clear hf hR key hfa B5 hv
  have key := does_calls tb mb S G L 0 q r _ hW hgq
  by_cases hin : insideB S q r
  · obtain ⟨F, rfl⟩ := Int.eq_ofNat_of_zero_le hin.2.1
    obtain ⟨N, rfl⟩ := Int.eq_ofNat_of_zero_le hin.1
    have hFN : F + N ≤ S := by have h1 := hin.2.2.1; have h2 := hin.2.2.2; omega
    have e : doS G (S, L) (0, (F : Int), (N : Int)) = ((S, bSet S G L F N), 0) := by simp [doS, hin]
    rw [e] at key
    have His : ∀ s : Nat, F ≤ s → s < F + N → Hid (isB S G (bSet S G L F N) s = true) := fun s h1 h2 => hidIt (kept_is (by omega) hW.len hFN h1 h2)
    clear e hin hgq
    go_wp2_with fail
    refine key.mono ?_
    rintro e w2 ⟨rfl, hW2, hf2⟩
    replace hW2 : BitW w2 tb mb S G (bSet S G L F N) := hW2
    have hlen2 := hidIt hW2.len
    generalize bSet S G L F N = L2 at *
    have B5 := B50.fr hf2 (by simp; omega)
    replace hF := hF.trans hf2 (fun x hx hl => by simp at hx; omega)
    replace b5 := B5.cell
    clear key hW hf2 B50 b50 f5 l5
    go_wp2_with fail
    go_loopw [10] (fun i wr => ∃ s : Nat, F ≤ s ∧ s ≤ F + N ∧ i = .int .i64 (s : Int) ∧ BitW wr tb mb S G L2 ∧ Blk wr w.heap.size [.int .i64 0, .int .i64 F, .int .i64 N] 24 ∧ Fr [] w wr) (fun i _ => F + N - (intOf i).toNat)
    case atStart => exact ⟨F, Nat.le_refl _, by omega, rfl, hW2, B5, hF⟩
    case round =>
      clear hW2 B5 b5 hF
      obtain ⟨s, hs1, hs2, rfl, hW, B5, hF⟩ := hrel
      have b5 := B5.cell
      by_cases hlt : s < F + N
      · have hlt' : (s : Int) < (F : Int) + (N : Int) := by omega
        have hi := His s hs1 hlt
        clear His
        go_wp2_with fail
        refine (Is_calls tb mb S G L2 s _ hW).mono ?_
        rintro e w3 ⟨rfl, hf3⟩
        rw [hi.out]
        go_wp2
        go_roundw
        case rel => exact ⟨s + 1, by omega, by omega, by go_num, hW.fr0 hf3, B5.fr0 hf3, hF.trans0 hf3⟩
        case measure => simp [intOf]; omega
      · have hlt' : ¬ (s : Int) < (F : Int) + (N : Int) := by omega
        by_cases hN : N < 1
        · have hN0 : N = 0 := by omega
          subst hN0
          clear His
          go_wp2_with fail
          refine (alive_calls _).mono ?_
          rintro e w3 ⟨rfl, hf3⟩
          go_wp2
          go_ret
          exact ⟨rfl, hF.trans0 hf3⟩
        · have hN' : ¬ (N : Int) < 1 := by omega
          have hiF := His F (Nat.le_refl _) (by omega)
          clear His
          by_cases hG2 : G < 2
          · have hG2' : (G : Int) < 2 := by omega
            go_wp2_with fail
            refine (alive_calls _).mono ?_
            rintro e w3 ⟨rfl, hf3⟩
            go_wp2
            go_ret
            exact ⟨rfl, hF.trans0 hf3⟩
          · have hG2' : ¬ (G : Int) < 2 := by omega
            have hq : Int.tdiv (F : Int) G = ((F / G : Nat) : Int) := Int.ofNat_tdiv F G
            have hmul : ((F / G : Nat) : Int) * (G : Int) = ((F / G * G : Nat) : Int) := by simp
            have hk1 := Nat.div_mul_le_self F G
            have hk2 := (div_le (X := F) (g := G) (k := F / G) (by omega)).1 (Nat.le_refl _)
            have hk3 := Nat.div_le_self F G
            have Hhalf := fun h hh => hidIt (kept_half (S := S) (g := G) (l := L2) (f := F) (h := h) (by omega) hlen2.out (by omega) hh hiF.out)
            generalize F / G * G = M at *
            generalize F / G = K at *
            have hgn : ¬ (G : Int) = 0 := by omega
            have hgz : ¬ G = 0 := by omega
            have hwK : IntKind.i64.wrap (K : Int) = (K : Int) := IntWalk.i64_in _ (by omega)
            have hwM : IntKind.i64.wrap (M : Int) = (M : Int) := IntWalk.i64_in _ (by omega)
            go_wp2_with fail
            refine (Sectors_calls tb mb S G L2 _ hW).mono ?_
            rintro e w3 ⟨rfl, rfl⟩
            by_cases hA : (S : Int) - (M : Int) < (G : Int)
            · by_cases hB : (S : Int) - (M : Int) - 1 < 1
              · clear Hhalf
                go_wp2_with fail
                refine (alive_calls _).mono ?_
                rintro e w3 ⟨rfl, hf3⟩
                go_wp2
                go_ret
                exact ⟨rfl, hF.trans0 hf3⟩
              · have e1 : (S : Int) - (M : Int) - 1 = ((S - M - 1 : Nat) : Int) := by omega
                have hB' : ¬ ((S - M - 1 : Nat) : Int) < 1 := by omega
                go_wp2_with fail
                refine (Clear_yes tb mb S G L2 M (S - M - 1) _ hW (by omega)).mono ?_
                rintro e w3 ⟨rfl, hW3, hf3⟩
                have hi3 := Hhalf (S - M - 1) (by omega)
                replace hF := hF.trans hf3 (fun x hx hl => by simp at hx; omega)
                replace B5 := B5.fr hf3 (by simp; omega)
                generalize bClear S G L2 M (S - M - 1) = L3 at *
                clear hW hf3 Hhalf b5
                go_wp2_with fail
                refine (alive_calls _).mono ?_
                rintro e w4 ⟨rfl, hf4⟩
                replace hF := hF.trans0 hf4
                replace B5 := B5.fr0 hf4
                replace hW3 := hW3.fr0 hf4
                have b5 := B5.cell
                go_wp2_with fail
                refine (Is_calls tb mb S G L3 F _ hW3).mono ?_
                rintro e w5 ⟨rfl, hf5⟩
                rw [hi3.out]
                go_wp2
                go_ret
                exact ⟨rfl, hF.trans0 hf5⟩
            · have e1 : (G : Int) - 1 = ((G - 1 : Nat) : Int) := by omega
              have hB' : ¬ ((G - 1 : Nat) : Int) < 1 := by omega
              go_wp2_with fail
              refine (Clear_yes tb mb S G L2 M (G - 1) _ hW (by omega)).mono ?_
              rintro e w3 ⟨rfl, hW3, hf3⟩
              have hi3 := Hhalf (G - 1) (by omega)
              replace hF := hF.trans hf3 (fun x hx hl => by simp at hx; omega)
              replace B5 := B5.fr hf3 (by simp; omega)
              generalize bClear S G L2 M (G - 1) = L3 at *
              clear hW hf3 Hhalf b5
              go_wp2_with fail
              refine (alive_calls _).mono ?_
              rintro e w4 ⟨rfl, hf4⟩
              replace hF := hF.trans0 hf4
              replace B5 := B5.fr0 hf4
              replace hW3 := hW3.fr0 hf4
              have b5 := B5.cell
              go_wp2_with fail
              refine (Is_calls tb mb S G L3 F _ hW3).mono ?_
              rintro e w5 ⟨rfl, hf5⟩
              rw [hi3.out]
              go_wp2
              go_ret
              exact ⟨rfl, hF.trans0 hf5⟩
  · have e : doS G (S, L) (0, q, r) = ((S, L), 1) := by simp [doS, hin]
    rw [e] at key
    clear e hin hgq
    go_wp2_with fail
    refine key.mono ?_
    rintro e w2 ⟨rfl, hW2, hf2⟩
    replace hF := hF.trans hf2 (fun x hx hl => by simp at hx; omega)
    go_wp2_with fail
    refine (alive_calls _).mono ?_
    rintro e w3 ⟨rfl, hf3⟩
    go_wp2
    go_ret
    exact ⟨rfl, hF.trans0 hf3⟩
theorem BitsKept_any (w : World) (g : Int) (_ : -9223372036854775808 ≤ g ∧ g ≤ 9223372036854775807) (v : Value) (l : List Op3) (hv : SlP w v l) (hw : ∀ o ∈ l, wf3 o) (p q r : Int) (ho : wf3 (p, q, r)) :
    Calls Try.prog 3 #[.int .i64 g, v, .agg #[.int .i64 p, .int .i64 q, .int .i64 r]] w fun e w' => e = .returned (.bool true) ∧ Fr [] w w' := by
  by_cases h : okMade 40 g l = true
  · exact BitsKept_yes g v l p q r w hv (good_of hw) h ⟨ho.2.2, ho.2.1⟩
  · exact BitsKept_no g v l p q r w hv (by simpa using h)
end Go.Proofs.Ytfmolbgfhchdkaa
