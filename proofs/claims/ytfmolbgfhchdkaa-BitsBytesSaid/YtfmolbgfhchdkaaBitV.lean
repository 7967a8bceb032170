/-
  The reference of layer 10: Do; law10.made.
-/
import Derived.Test.YtfmolbgfhchdkaaBitU
namespace Go.Proofs.Ytfmolbgfhchdkaa
open Go.RowKit Go.Maps

/-- the reference's value reads so -/
structure RefB (w : World) (v : Value) (S g : Nat) (l : List Bool) : Prop where
  row : ∃ u, v = rb S g u ∧ SlB w u l ∧ okV u
  size : S ≤ 4096
  grain : pow2 g = true
  len : l.length = gran S g
theorem RefB.fr0 {w w' : World} {v : Value} {S g : Nat} {l : List Bool} (h : RefB w v S g l) (hf : Fr [] w w') : RefB w' v S g l := by
  obtain ⟨u, h1, h2, h3⟩ := h.row
  exact ⟨⟨u, h1, h2.fr0 hf, h3⟩, h.size, h.grain, h.len⟩
theorem SlB.keep {w w' : World} {v : Value} {l : List Bool} (h : SlB w v l) {b : Nat} {cs : List Value} {t : TypeId} (B : Blk w b cs t) (hcs : ∀ x ∈ cs, ∀ q, x ≠ .bool q) (hf : Fr [b] w w') : SlB w' v l := by
  obtain ⟨a, cap, rfl, h1, h2, hc⟩ := h
  refine ⟨a, cap, rfl, h1, h2, ?_⟩
  cases l with
  | nil => exact .inl rfl
  | cons x l =>
    rcases hc with he | ⟨b', off, rfl, hb, hc⟩
    · simp at he
    · refine SlC.fr (.inr ⟨b', off, rfl, hb, hc⟩) hf fun p hp hm => ?_
      cases hp
      have hbb : b' = b := by simpa using hm
      subst hbb
      have h0 := hc 0 (.bool x) (by simp)
      rw [Nat.add_zero, B.cell off] at h0
      exact hcs _ (List.mem_of_getElem? h0) x rfl
theorem noB {x y : Int} {u : Option Addr} {n c : Nat} : ∀ z ∈ [Value.int .i64 x, .int .i64 y, .slice u n c], ∀ q, z ≠ .bool q := by
  intro z hz q
  simp at hz
  rcases hz with rfl | rfl | rfl <;> simp
theorem doS_len {g : Nat} {st : Nat × List Bool} {o : Op3} (hS : st.1 ≤ 4096) (hl : st.2.length = gran st.1 g) : (doS g st o).1.1 ≤ 4096 ∧ (doS g st o).1.2.length = gran (doS g st o).1.1 g := by
  unfold doS
  split
  · split
    · exact ⟨hS, by simp [bSet]; exact hl⟩
    · exact ⟨hS, hl⟩
  · split
    · split
      · exact ⟨hS, by simp [bClear]; exact hl⟩
      · exact ⟨hS, hl⟩
    · split
      · split
        · rename_i h
          simp [okSec] at h
          exact ⟨by show o.2.2.toNat ≤ 4096; omega, rzB_len⟩
        · exact ⟨hS, hl⟩
      · exact ⟨hS, hl⟩
theorem rSet_calls (S g : Nat) (u : Value) (l : List Bool) (f n : Int) (d : Bool) (w : World) (h : RefB w (rb S g u) S g l) (fw : -9223372036854775808 ≤ n ∧ n ≤ 9223372036854775807) :
    Calls Try.prog 42 #[rb S g u, .int .i64 f, .int .i64 n, .bool d] w
      fun e w' => ∃ u', e = .returned (.tuple #[rb S g u', .int .i64 (doS g (S, l) (if d = true then 0 else 1, f, n)).2]) ∧ (doS g (S, l) (if d = true then 0 else 1, f, n)).1.1 = S ∧ SlB w' u' (doS g (S, l) (if d = true then 0 else 1, f, n)).1.2 ∧ okV u' ∧ Fr [] w w' := by
  obtain ⟨⟨u1, h1, h2, h3⟩, hS, hp, hl⟩ := h
  have : u = u1 := by
    have := (Value.agg.inj h1)
    simpa using this
  subst this
  have hg := pow2_le hp
  have hg' : 0 < g ∧ g ≤ 64 := by omega
  by_cases hin : insideB S f n
  · obtain ⟨f, rfl⟩ := Int.eq_ofNat_of_zero_le hin.2.1
    obtain ⟨n, rfl⟩ := Int.eq_ofNat_of_zero_le hin.1
    have hfn : f + n ≤ S := by have h1 := hin.2.2.1; have h2 := hin.2.2.2; omega
    cases d
    · have e : doS g (S, l) (1, (f : Int), (n : Int)) = ((S, bClear S g l f n), 0) := by simp [doS, hin]
      simp only [Bool.false_eq_true, if_false]
      rw [e]
      refine (rSet_false S g u l f n w h2 h3 hS hg' hl hfn).mono ?_
      rintro e w1 ⟨u', rfl, a1, a2, a3⟩
      exact ⟨u', rfl, rfl, a1, a2, a3⟩
    · have e : doS g (S, l) (0, (f : Int), (n : Int)) = ((S, bSet S g l f n), 0) := by simp [doS, hin]
      simp only [if_true]
      rw [e]
      refine (rSet_true S g u l f n w h2 h3 hS hg' hl hfn).mono ?_
      rintro e w1 ⟨u', rfl, a1, a2, a3⟩
      exact ⟨u', rfl, rfl, a1, a2, a3⟩
  · have e : doS g (S, l) (if d = true then 0 else 1, f, n) = ((S, l), 1) := by cases d <;> simp [doS, hin]
    rw [e]
    refine (rSet_no S g u l f n d w h2 hS fw hin).mono ?_
    rintro e w1 ⟨rfl, hf⟩
    exact ⟨u, rfl, rfl, h2.fr0 hf, h3, hf⟩
theorem rResize_calls (S g : Nat) (u : Value) (l : List Bool) (f n : Int) (w : World) (h : RefB w (rb S g u) S g l) :
    Calls Try.prog 43 #[rb S g u, .int .i64 n] w
      fun e w' => ∃ u', e = .returned (.tuple #[rb (doS g (S, l) (2, f, n)).1.1 g u', .int .i64 (doS g (S, l) (2, f, n)).2]) ∧ SlB w' u' (doS g (S, l) (2, f, n)).1.2 ∧ okV u' ∧ Fr [] w w' := by
  obtain ⟨⟨u1, h1, h2, h3⟩, hS, hp, hl⟩ := h
  have : u = u1 := by
    have := (Value.agg.inj h1)
    simpa using this
  subst this
  by_cases hin : okSec n = true
  · have hb : 0 ≤ n ∧ n ≤ 4096 := by simpa [okSec] using hin
    obtain ⟨n, rfl⟩ := Int.eq_ofNat_of_zero_le hb.1
    have e : doS g (S, l) (2, f, (n : Int)) = ((n, rzB S g l n), 0) := by simp [doS, hin]
    rw [e]
    exact rResize_yes S g u l n w h2 hp hS (by omega) hl
  · have e : doS g (S, l) (2, f, n) = ((S, l), 1) := by simp [doS, hin]
    rw [e]
    refine (rResize_no S g u l n w h2 (by simpa using hin)).mono ?_
    rintro e w1 ⟨rfl, hf⟩
    exact ⟨u, rfl, h2.fr0 hf, h3, hf⟩
set_option maxRecDepth 100000 in
set_option maxHeartbeats 1600000 in
theorem rDo_calls (S g : Nat) (u : Value) (l : List Bool) (k f n : Int) (w : World) (h : RefB w (rb S g u) S g l) (fw : goodOp (k, f, n)) :
    Calls Try.prog 22 #[rb S g u, .agg #[.int .i64 k, .int .i64 f, .int .i64 n]] w
      fun e w' => ∃ u', e = .returned (.tuple #[rb (doS g (S, l) (k, f, n)).1.1 g u', .int .i64 (doS g (S, l) (k, f, n)).2]) ∧ RefB w' (rb (doS g (S, l) (k, f, n)).1.1 g u') (doS g (S, l) (k, f, n)).1.1 g (doS g (S, l) (k, f, n)).1.2 ∧ Fr [] w w' := by
  have hlen := doS_len (g := g) (st := (S, l)) (o := (k, f, n)) h.size h.len
  have hp := h.grain
  have hF : Fr [] w (((w.alloc (.cells #[.int .i64 S, .int .i64 g, u] 28)).alloc (.cells #[.int .i64 k, .int .i64 f, .int .i64 n] 24)).alloc (.cells #[.int .i64 0, .int .i64 0, .slice none 0 0] 28)) := (((Fr.refl _ w).alloc _).alloc _).alloc _
  have h' := h.fr0 hF
  have hu : ∃ a m c, u = .slice a m c := by
    obtain ⟨u1, h1, h2, _⟩ := h.row
    have : u = u1 := by
      have := (Value.agg.inj h1)
      simpa using this
    subst this
    obtain ⟨a, c, rfl, _⟩ := h2.open
    exact ⟨a, _, c, rfl⟩
  have B4 : Blk (((w.alloc (.cells #[.int .i64 S, .int .i64 g, u] 28)).alloc (.cells #[.int .i64 k, .int .i64 f, .int .i64 n] 24)).alloc (.cells #[.int .i64 0, .int .i64 0, .slice none 0 0] 28)) (w.heap.size + 2) [.int .i64 0, .int .i64 0, .slice none 0 0] 28 := Blk.new' (by simp) [_, _, _] _
  have key0 := rSet_calls S g u l f n true _ h' fw.1
  have key1 := rSet_calls S g u l f n false _ h' fw.1
  have key2 := rResize_calls S g u l f n _ h'
  simp only [if_true, Bool.false_eq_true, if_false] at key0 key1
  obtain ⟨ua, um, uc, rfl⟩ := hu
  unfold rb at key0 key1 key2 ⊢
  by_cases k0 : k = 0
  · subst k0
    generalize doS g (S, l) (0, f, n) = d at key0 hlen ⊢
    replace hlen := hidIt hlen
    clear key1 key2 h' h
    go_enter Try.func22, Try.ntmps22
    go_wp2_with fail
    refine key0.mono ?_
    rintro e w1 ⟨u', rfl, hd, hu', hok, hf⟩
    obtain ⟨a', c', rfl, _⟩ := SlF.open hu'
    have B41 := B4.fr0 hf
    have b4 := B41.cell
    have f4 := B41.frozen
    have l4 := B41.lt
    have hF1 := hF.trans0 hf
    clear hF hf key0
    go_wp2
    exact bodyPost_ret (v := .tuple #[rb d.1.1 g (.slice a' d.1.2.length c'), .int .i64 d.2]) (by simp [results, Try.results22, go_sem, rb, hd, b4]) rfl ⟨_, rfl, ⟨⟨_, rfl, SlB.keep hu' B41 noB (Fr.set3 _ _ _ _ _), hok⟩, hlen.out.1, hp, hlen.out.2⟩, ((hF1.setCell (.inr (by simp; omega)) _).setCell (.inr (by simp; omega)) _).setCell (.inr (by simp; omega)) _⟩
  · by_cases k1 : k = 1
    · subst k1
      generalize doS g (S, l) (1, f, n) = d at key1 hlen ⊢
      replace hlen := hidIt hlen
      clear key0 key2 h' h
      go_enter Try.func22, Try.ntmps22
      go_wp2_with fail
      refine key1.mono ?_
      rintro e w1 ⟨u', rfl, hd, hu', hok, hf⟩
      obtain ⟨a', c', rfl, _⟩ := SlF.open hu'
      have B41 := B4.fr0 hf
      have b4 := B41.cell
      have f4 := B41.frozen
      have l4 := B41.lt
      have hF1 := hF.trans0 hf
      clear hF hf key1
      go_wp2
      exact bodyPost_ret (v := .tuple #[rb d.1.1 g (.slice a' d.1.2.length c'), .int .i64 d.2]) (by simp [results, Try.results22, go_sem, rb, hd, b4]) rfl ⟨_, rfl, ⟨⟨_, rfl, SlB.keep hu' B41 noB (Fr.set3 _ _ _ _ _), hok⟩, hlen.out.1, hp, hlen.out.2⟩, ((hF1.setCell (.inr (by simp; omega)) _).setCell (.inr (by simp; omega)) _).setCell (.inr (by simp; omega)) _⟩
    · by_cases k2 : k = 2
      · subst k2
        generalize doS g (S, l) (2, f, n) = d at key2 hlen ⊢
        replace hlen := hidIt hlen
        clear key0 key1 h' h
        go_enter Try.func22, Try.ntmps22
        go_wp2_with fail
        refine key2.mono ?_
        rintro e w1 ⟨u', rfl, hu', hok, hf⟩
        obtain ⟨a', c', rfl, _⟩ := SlF.open hu'
        have B41 := B4.fr0 hf
        have b4 := B41.cell
        have f4 := B41.frozen
        have l4 := B41.lt
        have hF1 := hF.trans0 hf
        clear hF hf key2
        go_wp2
        exact bodyPost_ret (v := .tuple #[rb d.1.1 g (.slice a' d.1.2.length c'), .int .i64 d.2]) (by simp [results, Try.results22, go_sem, rb, b4]) rfl ⟨_, rfl, ⟨⟨_, rfl, SlB.keep hu' B41 noB (Fr.set3 _ _ _ _ _), hok⟩, hlen.out.1, hp, hlen.out.2⟩, ((hF1.setCell (.inr (by simp; omega)) _).setCell (.inr (by simp; omega)) _).setCell (.inr (by simp; omega)) _⟩
      · have e : doS g (S, l) (k, f, n) = ((S, l), 0) := by simp [doS, k0, k1, k2]
        rw [e] at hlen ⊢
        have b4 := B4.cell
        have f4 := B4.frozen
        obtain ⟨u1, h1, h2, h3⟩ := h.row
        have hu1 : Value.slice ua um uc = u1 := by
          have := (Value.agg.inj h1)
          simpa using this
        subst hu1
        have hlen := hidIt hlen
        clear key0 key1 key2 e h1 h' h
        go_enter Try.func22, Try.ntmps22
        go_wp2
        exact bodyPost_ret (v := .tuple #[rb S g (.slice ua um uc), .int .i64 0]) (by simp [results, Try.results22, go_sem, rb]) rfl ⟨_, rfl, ⟨⟨_, rfl, SlF.fr0 h2 ((((Fr.refl _ _).alloc _).alloc _).alloc _), h3⟩, hlen.out.1, hp, hlen.out.2⟩, (((Fr.refl _ _).alloc _).alloc _).alloc _⟩
end Go.Proofs.Ytfmolbgfhchdkaa
