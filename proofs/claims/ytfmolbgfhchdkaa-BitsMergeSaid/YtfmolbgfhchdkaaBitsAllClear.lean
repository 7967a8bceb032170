/-
  law10.BitsAllClear: the walk.
-/
import Derived.Test.YtfmolbgfhchdkaaBitY
import Derived.Test.YtfmolbgfhchdkaaBitN
namespace Go.Proofs.Ytfmolbgfhchdkaa
open Go.RowKit Go.Maps

theorem made_no (s g : Int) (v : Value) (l : List Op3) (w : World) (hv : SlP w v l) (h : okMade s g l = false) : Calls Try.prog 10 #[.int .i64 s, .int .i64 g, v] w
      fun e w' => ∃ x y a n c, e = .returned (.tuple #[.pointer none, .agg #[.int .i64 x, .int .i64 y, .slice a n c], .bool false]) ∧ Fr [] w w' := by
  by_cases h1 : okNew s g = true
  · have h2 : fewS s l = false := by simpa [okMade, h1] using h
    refine (made_few s g v l w h1 hv h2).mono ?_
    rintro e w' ⟨rv, rfl, ⟨x, y, a, n, c, rfl⟩, hf⟩
    exact ⟨x, y, a, n, c, rfl, hf⟩
  · refine (made_new s g v w (by simpa using h1)).mono ?_
    rintro e w' ⟨rfl, hf⟩
    exact ⟨0, 0, none, 0, 0, rfl, hf⟩
theorem clear_all (S g : Nat) (l : List Bool) : cnt (bClear S g l 0 S) = 0 := by
  unfold cnt
  rw [List.length_eq_zero_iff, List.filter_eq_nil_iff]
  intro k hk
  have hk : k < l.length := by simpa [bClear] using hk
  rw [bClear_getD hk]
  have : allB S g 0 S k = true := by simp only [allB, Bool.and_eq_true, decide_eq_true_eq]; omega
  rw [this]; simp
theorem set_all (S g : Nat) (l : List Bool) (hg : 0 < g) (hl : l.length = gran S g) : cnt (bSet S g l 0 S) = gran S g := by
  unfold cnt
  rw [List.filter_eq_self.2, List.length_range]
  · simp [bSet]; exact hl
  · intro k hk
    have hk : k < l.length := by simpa [bSet] using hk
    have hkS : k * g < S := (ceil_lt hg).1 (by rw [hl] at hk; exact hk)
    rw [bSet_getD hk]
    have : oneB S g 0 S k = true := by simp only [oneB, decide_eq_true_eq]; omega
    rw [this]; rfl
set_option maxRecDepth 100000 in
set_option maxHeartbeats 1600000 in
theorem BitsAllClear_no (g : Int) (v : Value) (l : List Op3) (w : World) (hv : SlP w v l) (h : okMade 40 g l = false) : Calls Try.prog 4 #[.int .i64 g, v] w fun e w' => e = .returned (.bool true) ∧ Fr [] w w' := by
  go_enter Try.func4, Try.ntmps4
  go_wp2_with fail
  refine (made_no 40 g v l _ hv h).mono ?_
  rintro e w1 ⟨x, y, a, n, c, rfl, hf⟩
  go_wp2_with fail
  refine (alive_calls _).mono ?_
  rintro e w2 ⟨rfl, hf2⟩
  go_wp2
  go_ret
  exact ⟨rfl, (hf.alloc _).trans0 hf2⟩
set_option maxRecDepth 100000 in
set_option maxHeartbeats 1600000 in
theorem BitsAllClear_yes (g : Int) (v : Value) (l : List Op3) (w : World) (hv : SlP w v l) (hgood : ∀ o ∈ l, goodOp o) (h : okMade 40 g l = true) : Calls Try.prog 4 #[.int .i64 g, v] w fun e w' => e = .returned (.bool true) ∧ Fr [] w w' := by
  have h1 : okNew 40 g = true := by simp [okMade] at h; exact h.1
  have h2 : fewS 40 l = true := by simp [okMade] at h; exact h.2
  have hp : pow2 g = true := by simp [okNew] at h1; exact h1.2
  have hg := pow2_le hp
  obtain ⟨G, rfl⟩ := Int.eq_ofNat_of_zero_le (by omega : 0 ≤ g)
  have key := made_yes 40 (G : Int) v l w h1 hv h2 hgood
  unfold madePost at key
  simp only [Int.toNat_natCast] at key
  generalize (stOf 40 (G : Int) l).1 = S at *
  generalize (stOf 40 (G : Int) l).2 = L at *
  go_enter Try.func4, Try.ntmps4
  go_wp2_with fail
  refine key.mono ?_
  rintro e w1 ⟨tb, mb, rv, rfl, hW, hR, ht, hm, hf⟩
  obtain ⟨x, y, a, n, c, rfl⟩ := hR.some
  have hS := hW.size
  have hlen := hidIt hW.len
  have hle := gran_le hW.size hW.grain.1
  have hfa := (Fr.refl [] w1).alloc (.cells #[.int .i64 x, .int .i64 y, .slice a n c] 28)
  replace hW := hW.fr0 hfa
  replace hf := hf.trans0 hfa
  clear hfa hR key
  go_wp2_with fail
  refine (Sectors_calls tb mb S G L _ hW).mono ?_
  rintro e w2 ⟨rfl, rfl⟩
  go_wp2_with fail
  refine (Clear_yes tb mb S G L 0 S _ hW (by omega)).mono ?_
  rintro e w2 ⟨rfl, hW2, hf2⟩
  replace hf := hf.trans hf2 (fun x hx hl => by simp at hx; omega)
  have Hc := hidIt (clear_all S G L)
  have hlen2 : Hid ((bClear S G L 0 S).length = gran S G) := hidIt hW2.len
  generalize bClear S G L 0 S = L2 at *
  clear hW hf2
  go_wp2_with fail
  refine (Count_calls tb mb S G L2 _ hW2).mono ?_
  rintro e w3 ⟨rfl, rfl⟩
  rw [Hc.out]
  go_wp2_with fail
  refine (Sectors_calls tb mb S G L2 _ hW2).mono ?_
  rintro e w3 ⟨rfl, rfl⟩
  go_wp2_with fail
  refine (Set_yes tb mb S G L2 0 S _ hW2 (by omega)).mono ?_
  rintro e w3 ⟨rfl, hW3, hf3⟩
  replace hf := hf.trans hf3 (fun x hx hl => by simp at hx; omega)
  have Hs := hidIt (set_all S G L2 (by omega) hlen2.out)
  generalize bSet S G L2 0 S = L3 at *
  clear hW2 hf3
  go_wp2_with fail
  refine (alive_calls _).mono ?_
  rintro e w4 ⟨rfl, hf4⟩
  replace hf := hf.trans0 hf4
  replace hW3 := hW3.fr0 hf4
  clear hf4
  go_wp2_with fail
  refine (Count_calls tb mb S G L3 _ hW3).mono ?_
  rintro e w5 ⟨rfl, rfl⟩
  rw [Hs.out]
  go_wp2_with fail
  refine (Sectors_calls tb mb S G L3 _ hW3).mono ?_
  rintro e w5 ⟨rfl, rfl⟩
  have hgn : ¬ (G : Int) = 0 := by omega
  have hgz : ¬ G = 0 := by omega
  have hq : Int.tdiv ((S : Int) + G - 1) G = (gran S G : Nat) := by
    unfold gran
    have e : (S : Int) + G - 1 = ((S + G - 1 : Nat) : Int) := by omega
    rw [e, Int.ofNat_tdiv]
  have hwq : IntKind.i64.wrap ((gran S G : Nat) : Int) = (gran S G : Nat) := IntWalk.i64_in _ (by omega)
  have hw1 : IntKind.i64.wrap ((S : Int) + G) = (S : Int) + G := IntWalk.i64_in _ (by omega)
  have hw2 : IntKind.i64.wrap ((S : Int) + G - 1) = (S : Int) + G - 1 := IntWalk.i64_in _ (by omega)
  generalize gran S G = Q at *
  go_wp2
  go_ret
  exact ⟨rfl, hf⟩
theorem good_of {l : List Op3} (h : ∀ o ∈ l, wf3 o) : ∀ o ∈ l, goodOp o := fun o ho => ⟨(h o ho).2.2, (h o ho).2.1⟩
theorem BitsAllClear_any (w : World) (g : Int) (_ : -9223372036854775808 ≤ g ∧ g ≤ 9223372036854775807) (v : Value) (l : List Op3) (hv : SlP w v l) (hw : ∀ o ∈ l, wf3 o) :
    Calls Try.prog 4 #[.int .i64 g, v] w fun e w' => e = .returned (.bool true) ∧ Fr [] w w' := by
  by_cases h : okMade 40 g l = true
  · exact BitsAllClear_yes g v l w hv (good_of hw) h
  · exact BitsAllClear_no g v l w hv (by simpa using h)
end Go.Proofs.Ytfmolbgfhchdkaa
