/-
  CheckApart.
-/
import Derived.Test.YtmbbmombhkaeoaaChkO
namespace Go.Proofs.Ytmbbmombhkaeoaa
open Go.RowKit Go.Maps
attribute [local go_sem] Oper.semAt_some

theorem pick_mem {p : Nat → Bool} {k : Nat} {x : Int} (h : x ∈ pickTo p k) : ∃ i : Nat, i < k ∧ p i = true ∧ x = (i : Int) := by
  unfold pickTo at h
  obtain ⟨i, hi, rfl⟩ := List.mem_map.1 h
  obtain ⟨h1, h2⟩ := List.mem_filter.1 hi
  exact ⟨i, by simpa using h1, h2, rfl⟩
theorem pick_apart {p q : Nat → Bool} {k m : Nat} (h : ∀ i, p i = true → q i = false) : ∀ x ∈ pickTo p k, x ∉ pickTo q m := by
  intro x hx hy
  obtain ⟨i, _, h1, rfl⟩ := pick_mem hx
  obtain ⟨j, _, h2, e⟩ := pick_mem hy
  have : i = j := by omega
  subst this
  rw [h i h1] at h2
  cases h2
theorem more_less (n l : List Int) : ∀ i, moreB n l i = true → lessB n l i = false := by
  intro i h
  unfold moreB at h
  unfold lessB
  simp at h ⊢
  omega
theorem bad_wrong (N : Nat) (fs : List Slt) (l0 : Nat) : ∀ k, badAt N fs k = true → wrongAt N fs l0 k = false := by
  intro k h
  unfold badAt at h
  unfold wrongAt
  cases hh : hasS (fs.getD k zS) (N : Int) with
  | false => rfl
  | true => rw [has_bad hh] at h; cases h
set_option maxRecDepth 100000 in
set_option maxHeartbeats 1600000 in
theorem CheckApart_any (w : World) (v : Value) (n : List Int) (hv : SlI w v n) (hn : n.length ≤ 1048576) (u : Value) (ls : List (List Slt)) (hu : SlR w u ls) (ht : tot ls ≤ 1048576) :
    Calls Try.prog 7 #[v, u] w fun e w' => e = .returned (.bool true) ∧ Fr [] w w' := by
  have kF := few_calls v u n ls w hv hu ht
  cases hfb : fewB n ls with
  | false =>
    rw [hfb] at kF
    go_enter Try.func7, Try.ntmps7
    go_wp2_with fail
    refine kF.mono ?_
    rintro e w1 ⟨rfl, hf1⟩
    go_wp2_with fail
    refine (alive_calls _).mono ?_
    rintro e w2 ⟨rfl, hf2⟩
    go_wp2
    go_ret
    exact ⟨rfl, hf1.trans0 hf2⟩
  | true =>
    rw [hfb] at kF
    go_enter Try.func7, Try.ntmps7
    go_wp2_with fail
    refine kF.mono ?_
    rintro e w1 ⟨rfl, hf1⟩
    go_wp2_with fail
    refine (own_calls u ls _ (hu.fr0 hf1) ht).mono ?_
    rintro e w2 ⟨x, rfl, hx, hf2⟩
    have hF2 := hf1.trans0 hf2
    go_wp2_with fail
    refine (Look_calls v x n ls _ (SlF.fr0 hv hF2) hx ht hn).mono ?_
    rintro e w3 ⟨v0, v1, v2, v3, rfl, s0, s1, s2, s3, hf3, _⟩
    have hF3 := hF2.trans0 hf3
    have d1 := pick_apart (k := n.length) (m := n.length) (more_less n (rcL n.length ls.flatten))
    have d2 := pick_apart (k := ls.flatten.length) (m := ls.flatten.length) (bad_wrong n.length ls.flatten (len0 ls))
    generalize pickTo (moreB n (rcL n.length ls.flatten)) n.length = A at *
    generalize pickTo (lessB n (rcL n.length ls.flatten)) n.length = B at *
    generalize pickTo (badAt n.length ls.flatten) ls.flatten.length = C at *
    generalize pickTo (wrongAt n.length ls.flatten (len0 ls)) ls.flatten.length = D at *
    obtain ⟨a0, p0, rfl, _⟩ := s0.open
    obtain ⟨a1, p1, rfl, _⟩ := s1.open
    obtain ⟨a2, p2, rfl, _⟩ := s2.open
    obtain ⟨a3, p3, rfl, _⟩ := s3.open
    have hfa := (Fr.refl [] w3).alloc (.cells #[.slice a0 A.length p0, .slice a1 B.length p1, .slice a2 C.length p2, .slice a3 D.length p3] 27)
    have Br := Blk.new w3 [.slice a0 A.length p0, .slice a1 B.length p1, .slice a2 C.length p2, .slice a3 D.length p3] 27
    go_wp2_with fail
    refine (alive_calls _).mono ?_
    rintro e w4 ⟨rfl, hf4⟩
    have hf34 := hfa.trans0 hf4
    replace Br := Br.fr0 hf4
    have c4 := Br.cell
    go_wp2_with fail
    refine (apart_calls _ _ A B _ (SlF.fr0 s0 hf34) (SlF.fr0 s1 hf34) d1).mono ?_
    rintro e w5 ⟨rfl, hf5⟩
    have c5 := (Br.fr0 hf5).cell
    clear c4
    go_wp2_with fail
    refine (apart_calls _ _ C D _ (SlF.fr0 s2 (hf34.trans0 hf5)) (SlF.fr0 s3 (hf34.trans0 hf5)) d2).mono ?_
    rintro e w6 ⟨rfl, hf6⟩
    go_wp2
    go_ret
    exact ⟨rfl, ((hF3.trans0 hf34).trans0 hf5).trans0 hf6⟩
end Go.Proofs.Ytmbbmombhkaeoaa
