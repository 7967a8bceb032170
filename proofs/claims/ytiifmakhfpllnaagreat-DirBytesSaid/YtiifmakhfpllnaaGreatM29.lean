/-
  Two bits merged: in plain Lean; bits.Merge and ref10.Merge.
-/
import Derived.Test.YtiifmakhfpllnaaGreatM12
import Derived.Test.YtiifmakhfpllnaaGreatM26
import Derived.Test.YtiifmakhfpllnaaGreatM08
import Derived.Test.YtiifmakhfpllnaaGreatM13
import Derived.Test.YtiifmakhfpllnaaGreatM17
import Derived.Test.YtiifmakhfpllnaaGreatM14
import Derived.Test.YtiifmakhfpllnaaGreatM07
namespace Go.Proofs.YtiifmakhfpllnaaGreat
open Go.RowKit Go.Maps

/-! ### in plain Lean -/
/-- with those of the first n sectors that are of kind 1 -/
def mrgL (g : Nat) (l : List Bool) (ks : List Int) (n : Nat) : List Bool := (List.range l.length).map fun k => (List.range n).any (fun s => decide (s / g = k) && (ks.getD s 0 == 1)) || l.getD k false
theorem mrgL_len (g : Nat) (l : List Bool) (ks : List Int) (n : Nat) : (mrgL g l ks n).length = l.length := by simp [mrgL]
theorem map_range_getD (f : Nat → Bool) {n k : Nat} (h : k < n) : ((List.range n).map f).getD k false = f k := by
  rw [List.getD_eq_getElem?_getD, List.getElem?_map, List.getElem?_range h]
  rfl
theorem mrgL_getD (g : Nat) (l : List Bool) (ks : List Int) (n : Nat) {k : Nat} (h : k < l.length) : (mrgL g l ks n).getD k false = ((List.range n).any (fun s => decide (s / g = k) && (ks.getD s 0 == 1)) || l.getD k false) := map_range_getD _ h
theorem any_iff (g k : Nat) (ks : List Int) (n : Nat) : (List.range n).any (fun s => decide (s / g = k) && (ks.getD s 0 == 1)) = true ↔ ∃ s, s < n ∧ s / g = k ∧ ks.getD s 0 = 1 := by
  rw [List.any_eq_true]
  constructor
  · rintro ⟨s, hs, h⟩
    rw [Bool.and_eq_true, decide_eq_true_eq, beq_iff_eq] at h
    exact ⟨s, List.mem_range.1 hs, h.1, h.2⟩
  · rintro ⟨s, hs, h1, h2⟩
    exact ⟨s, List.mem_range.2 hs, by rw [Bool.and_eq_true, decide_eq_true_eq, beq_iff_eq]; exact ⟨h1, h2⟩⟩
theorem mrgL_zero (g : Nat) (l : List Bool) (ks : List Int) : mrgL g l ks 0 = l := extB (mrgL_len _ _ _ _) fun k hk => by
  rw [mrgL_getD _ _ _ _ (by rw [mrgL_len] at hk; exact hk)]
  simp
theorem mrgL_skip (g : Nat) (l : List Bool) (ks : List Int) {n m : Nat} (hnm : n ≤ m) (h : ∀ s, n ≤ s → s < m → ks.getD s 0 ≠ 1) : mrgL g l ks m = mrgL g l ks n := extB (by rw [mrgL_len, mrgL_len]) fun k hk => by
  rw [mrgL_len] at hk
  rw [mrgL_getD _ _ _ _ hk, mrgL_getD _ _ _ _ hk]
  congr 1
  rw [Bool.eq_iff_iff, any_iff, any_iff]
  constructor
  · rintro ⟨s, hs, h1, h2⟩
    refine ⟨s, ?_, h1, h2⟩
    rcases Nat.lt_or_ge s n with h3 | h3
    · exact h3
    · exact absurd h2 (h s h3 hs)
  · rintro ⟨s, hs, h1, h2⟩
    exact ⟨s, by omega, h1, h2⟩
theorem mrgL_set {S g : Nat} {l : List Bool} (ks : List Int) (hg : 0 < g) {n q : Nat} (hin : n + q ≤ S) (h : ∀ s, n ≤ s → s < n + q → ks.getD s 0 = 1) : bSet S g (mrgL g l ks n) n q = mrgL g l ks (n + q) := by
  refine extB (by simp [bSet, mrgL_len]) fun k hk => ?_
  have hk' : k < l.length := by simpa [bSet, mrgL_len] using hk
  have e1 : (bSet S g (mrgL g l ks n) n q).getD k false = (oneB S g n q k || (mrgL g l ks n).getD k false) := by
    unfold bSet
    exact map_range_getD _ (by rw [mrgL_len]; exact hk')
  rw [e1, mrgL_getD _ _ _ _ hk', mrgL_getD _ _ _ _ hk', ← Bool.or_assoc]
  congr 1
  rw [Bool.eq_iff_iff, Bool.or_eq_true, any_iff, any_iff]
  unfold oneB
  rw [decide_eq_true_eq]
  constructor
  · rintro (h1 | ⟨s, hs, h1, h2⟩)
    · refine ⟨max (k * g) n, by omega, ?_, h _ (by omega) (by omega)⟩
      rw [Nat.div_eq_iff hg]
      omega
    · exact ⟨s, by omega, h1, h2⟩
  · rintro ⟨s, hs, h1, h2⟩
    rw [Nat.div_eq_iff hg] at h1
    rcases Nat.lt_or_ge s n with h3 | h3
    · exact .inr ⟨s, h3, by rw [Nat.div_eq_iff hg]; exact h1, h2⟩
    · exact .inl (by omega)
/-- the extents that are laid, one after the other -/
def foldX (S g : Nat) (xs : List Op3) (l : List Bool) : List Bool := xs.foldl (fun l x => bSet S g l x.1.toNat x.2.1.toNat) l
theorem foldX_snoc (S g : Nat) (xs : List Op3) (x : Op3) (l : List Bool) : foldX S g (xs ++ [x]) l = bSet S g (foldX S g xs l) x.1.toNat x.2.1.toNat := by unfold foldX; rw [List.foldl_append]; rfl
theorem foldX_len (S g : Nat) : ∀ xs : List Op3, ∀ l : List Bool, (foldX S g xs l).length = l.length
  | [], _ => rfl
  | x :: xs, l => by
    have := foldX_len S g xs (bSet S g l x.1.toNat x.2.1.toNat)
    unfold foldX at this ⊢
    rw [List.foldl_cons, this]
    simp [bSet]
theorem fold_mrg {S g : Nat} {l : List Bool} {E : List Op3} {ks : List Int} (hg : 0 < g) (hl : l.length = gran S g) (hR : RightE E ks) (hS : ks.length ≤ S) : ∀ i, i ≤ E.length → foldX S g ((E.take i).filter fun x => x.2.2 == 1) l = mrgL g l ks (flatE (E.take i)).length
  | 0, _ => by
    rw [show (flatE (E.take 0)).length = 0 by simp [flatE], mrgL_zero]
    simp [foldX]
  | i + 1, hi => by
    have ih := fold_mrg hg hl hR hS i (by omega)
    have hlt : i < E.length := by omega
    have hx := hR.2 i hlt
    have h2 := flat_take_le E (i + 1)
    have hkind := fun j hj => hR.kind (j := j) hlt hj
    rw [flat_step hlt, List.length_append, List.length_replicate, hR.1] at h2
    have hge : E[i] = E.getD i z3 := by rw [List.getD_eq_getElem?_getD, List.getElem?_eq_getElem hlt]; rfl
    rw [flat_step hlt, List.length_append, List.length_replicate, List.take_succ_eq_append_getElem hlt, hge, List.filter_append]
    by_cases hk : (E.getD i z3).2.2 = 1
    · rw [List.filter_cons, if_pos (beq_iff_eq.2 hk), List.filter_nil, foldX_snoc, ih, hx.1, Int.toNat_natCast]
      refine mrgL_set ks hg (by omega) fun s h3 h4 => ?_
      have := hkind (s - (flatE (E.take i)).length) (by omega)
      rw [show (flatE (E.take i)).length + (s - (flatE (E.take i)).length) = s by omega] at this
      rw [this, hk]
    · rw [List.filter_cons, if_neg (by rw [beq_eq_false_iff_ne.2 hk]; decide), List.filter_nil, List.append_nil, ih]
      refine (mrgL_skip g l ks (by omega) fun s h3 h4 => ?_).symm
      have := hkind (s - (flatE (E.take i)).length) (by omega)
      rw [show (flatE (E.take i)).length + (s - (flatE (E.take i)).length) = s by omega] at this
      rw [this]
      exact hk
/-- what is merged: by extents; sector by sector -/
def mrg (S g : Nat) (l : List Bool) (g2 : Nat) (l2 : List Bool) : List Bool := mrgL g l (kindsB S g2 l2 S) S
theorem mrg_fold {S g g2 : Nat} {l l2 : List Bool} (hg : 0 < g) (hl : l.length = gran S g) (hS : S ≤ 4096) : foldX S g (ofKind (ofE (kindsB S g2 l2 S)) 1) l = mrg S g l g2 l2 := by
  have hR := RightE.of (kindsB S g2 l2 S)
  have hk := kindsB_len S g2 l2 S
  have := fold_mrg hg hl hR (by omega) _ (Nat.le_refl _)
  rw [List.take_length, hR.1, hk] at this
  unfold ofKind mrg
  rw [kinds_ofE (by omega)]
  exact this
theorem mrgL_one {S g g2 : Nat} {l l2 : List Bool} (hg : 0 < g) {n : Nat} (hn : n < S) : mrgL g l (kindsB S g2 l2 S) (n + 1) = if isB S g2 l2 n = true then bSet S g (mrgL g l (kindsB S g2 l2 S) n) n 1 else mrgL g l (kindsB S g2 l2 S) n := by
  have hk := kindsB_getD S g2 l2 hn
  by_cases h : isB S g2 l2 n = true
  · rw [if_pos h, mrgL_set _ hg (by omega) (fun s h1 h2 => by
      have : s = n := by omega
      subst this
      rw [hk, if_pos h])]
  · rw [if_neg h, mrgL_skip g l _ (by omega : n ≤ n + 1) (fun s h1 h2 => by
      have : s = n := by omega
      subst this
      rw [hk, if_neg h]
      decide)]
/-- each sector that is dirty in either is dirty -/
theorem mrg_is {S g g2 : Nat} {l l2 : List Bool} (hg : 0 < g) (hl : l.length = gran S g) {s : Nat} (hs : s < S) (h : isB S g l s = true ∨ isB S g2 l2 s = true) : isB S g (mrg S g l g2 l2) s = true := by
  have hk : s / g < l.length := by rw [hl]; exact gran_at hg hs
  have e : ∀ m, isB S g m s = m.getD (s / g) false := fun m => by simp [isB, hs]
  rw [e]
  unfold mrg
  rw [mrgL_getD _ _ _ _ hk, Bool.or_eq_true, any_iff]
  rcases h with h | h
  · rw [e] at h
    exact .inr h
  · exact .inl ⟨s, hs, rfl, by rw [kindsB_getD S g2 l2 hs, if_pos h]⟩
/-! ### ref10.Merge -/
def mrgPost (S g : Nat) (l : List Bool) (er : Int) (w : World) (e : Ending) (w' : World) : Prop :=
  ∃ u', e = .returned (.tuple #[rb S g u', .int .i64 er]) ∧ RefB w' (rb S g u') S g l ∧ Fr [] w w'
/-- where the slice lies that a call of the reference gives: it is the one that came, or new -/
def locV (u : Value) (w : World) (u' : Value) : Prop := u' = u ∨ ∀ k, u'.ownBlock = some k → w.heap.size ≤ k
def mrgPostL (u : Value) (S g : Nat) (l : List Bool) (er : Int) (w : World) (e : Ending) (w' : World) : Prop :=
  ∃ u', e = .returned (.tuple #[rb S g u', .int .i64 er]) ∧ RefB w' (rb S g u') S g l ∧ Fr [] w w' ∧ locV u w u'
set_option maxRecDepth 100000 in
set_option maxHeartbeats 1200000 in
theorem rMergeL_calls (S g : Nat) (u : Value) (l : List Bool) (S2 g2 : Nat) (u2 : Value) (l2 : List Bool) (w : World) (h : RefB w (rb S g u) S g l) (h2 : RefB w (rb S2 g2 u2) S2 g2 l2) :
    Calls Tryz.prog 74 #[rb S g u, rb S2 g2 u2] w (mrgPostL u S g (if S = S2 then mrg S g l g2 l2 else l) (if S = S2 then 0 else 1) w) := by
  obtain ⟨⟨u1, e1, hsl, hok⟩, hS, hp, hl⟩ := h
  obtain ⟨⟨u3, e3, hsl2, hok2⟩, hS2, hp2, hl2⟩ := h2
  have : u = u1 := by
    have := (Value.agg.inj e1)
    simpa using this
  subst this
  have : u2 = u3 := by
    have := (Value.agg.inj e3)
    simpa using this
  subst this
  have hg := pow2_le hp
  have hg2 := pow2_le hp2
  obtain ⟨a, cap, rfl, _, _, _⟩ := hsl.open
  obtain ⟨a2, cap2, rfl, _, _, _⟩ := hsl2.open
  clear e1 e3
  unfold rb
  by_cases hSS : S = S2
  · subst hSS
    rw [if_pos rfl, if_pos rfl]
    have hpost : ∀ L er w1 u', RefB w1 (rb S g u') S g L → Fr [] w w1 → locV (.slice a l.length cap) w u' → mrgPostL (.slice a l.length cap) S g L er w (.returned (.tuple #[.agg #[.int .i64 S, .int .i64 g, u'], .int .i64 er])) w1 := fun L er w1 u' h hf hlo => ⟨u', rfl, h, hf, hlo⟩
    have H0 : Hid (mrgL g l (kindsB S g2 l2 S) 0 = l) := hidIt (mrgL_zero _ _ _)
    have Hd : Hid (mrgL g l (kindsB S g2 l2 S) S = mrg S g l g2 l2) := hidIt rfl
    have Hst : ∀ n, n < S → Hid (mrgL g l (kindsB S g2 l2 S) (n + 1) = if isB S g2 l2 n = true then bSet S g (mrgL g l (kindsB S g2 l2 S) n) n 1 else mrgL g l (kindsB S g2 l2 S) n) := fun n hn => hidIt (mrgL_one (by omega) hn)
    have Hlen : Hid (∀ n, (mrgL g l (kindsB S g2 l2 S) n).length = gran S g) := hidIt (fun n => by rw [mrgL_len, hl])
    generalize mrg S g l g2 l2 = RES at *
    generalize mrgL g l (kindsB S g2 l2 S) = M at *
    have hl' := hidIt hl
    have hl2' := hidIt hl2
    clear hl hl2
    have B2 := ((Blk.new w [.int .i64 S, .int .i64 g, .slice a l.length cap] 74).alloc (.cells #[.int .i64 S, .int .i64 g2, .slice a2 l2.length cap2] 74)).alloc (.cells #[.int .i64 0, .int .i64 0, .slice none 0 0] 74)
    have B3 := (Blk.new' (w := w.alloc (.cells #[.int .i64 S, .int .i64 g, .slice a l.length cap] 74)) (n := w.heap.size + 1) (by simp) [.int .i64 S, .int .i64 g2, .slice a2 l2.length cap2] 74).alloc (.cells #[.int .i64 0, .int .i64 0, .slice none 0 0] 74)
    have B4 := Blk.new' (w := (w.alloc (.cells #[.int .i64 S, .int .i64 g, .slice a l.length cap] 74)).alloc (.cells #[.int .i64 S, .int .i64 g2, .slice a2 l2.length cap2] 74)) (n := w.heap.size + 2) (by simp) [.int .i64 0, .int .i64 0, .slice none 0 0] 74
    have hF0 := (((Fr.refl [] w).alloc (.cells #[.int .i64 S, .int .i64 g, .slice a l.length cap] 74)).alloc (.cells #[.int .i64 S, .int .i64 g2, .slice a2 l2.length cap2] 74)).alloc (.cells #[.int .i64 0, .int .i64 0, .slice none 0 0] 74)
    go_enter Tryz.func74, Tryz.ntmps74
    go_wp2_with fail
    go_loopw [6, 7, 8] (fun s _ _ wr => ∃ (n : Nat) (u1 : Value), n ≤ S ∧ s = .int .i64 n ∧ SlB wr u1 (M n) ∧ okV u1 ∧ locV (.slice a l.length cap) w u1 ∧ Blk wr w.heap.size [.int .i64 S, .int .i64 g, u1] 74 ∧ Blk wr (w.heap.size + 1) [.int .i64 S, .int .i64 g2, .slice a2 l2.length cap2] 74 ∧ Blk wr (w.heap.size + 2) [.int .i64 0, .int .i64 0, .slice none 0 0] 74 ∧ Fr [] w wr) (fun s _ _ _ => S - (intOf s).toNat)
    case atStart => exact ⟨0, _, Nat.zero_le _, rfl, by rw [H0.out]; exact SlF.fr0 hsl hF0, hok, .inl rfl, B2, B3, B4, hF0⟩
    case round =>
      clear B2 B3 B4 hF0
      obtain ⟨n, u1, hn, rfl, hs1, hok1, hlo, B2, B3, B4, hF⟩ := hrel
      have hML := hidIt (Hlen.out n)
      obtain ⟨a1, c1, rfl, _, _, _⟩ := hs1.open
      have b2 := B2.cell
      have b3 := B3.cell
      have b4 := B4.cell
      have f2 := B2.frozen
      have f4 := B4.frozen
      have q2' := B2.lt
      have q4' := B4.lt
      by_cases hlt : n < S
      · have hst := Hst n hlt
        have keyI := rIs_calls S g2 (.slice a2 l2.length cap2) l2 n wr (SlF.fr0 hsl2 hF) hS (by omega) hl2'.out
        generalize isB S g2 l2 (n : Int) = q at *
        go_wp2_with fail
        refine keyI.mono ?_
        rintro e w5 ⟨rfl, hf5⟩
        have hF5 := hF.trans0 hf5
        replace B2 := B2.fr0 hf5
        replace B3 := B3.fr0 hf5
        replace B4 := B4.fr0 hf5
        have hs5 := SlF.fr0 hs1 hf5
        cases q
        · have hst' : Hid (M (n + 1) = M n) := hidIt (by rw [hst.out]; rfl)
          clear hst Hst H0 Hd keyI b2 b3 b4 f2 f4 hpost
          go_wp2
          go_roundw
          case rel => exact ⟨n + 1, _, by omega, by go_num, by rw [hst'.out]; exact hs5, hok1, hlo, B2, B3, B4, hF5⟩
          case measure => simp [intOf]; omega
        · have hst' : Hid (M (n + 1) = bSet S g (M n) n 1) := hidIt (by rw [hst.out]; rfl)
          have hin : insideB S (n : Int) 1 := by unfold insideB; omega
          have ed : doS g (S, M n) (if (true : Bool) = true then 0 else 1, (n : Int), 1) = ((S, bSet S g (M n) n 1), 0) := by simp [doS, hin]
          have keyS := rSetL_calls S g (.slice a1 (M n).length c1) (M n) n 1 true w5 ⟨⟨_, rfl, hs5, hok1⟩, hS, hp, hML.out⟩ (by omega)
          rw [ed] at keyS
          unfold rb at keyS
          have b2' := B2.cell
          clear hst Hst H0 Hd keyI b2 b3 b4 f2 f4 ed hin hpost
          generalize bSet S g (M n) n 1 = N at *
          go_wp2_with fail
          refine keyS.mono ?_
          rintro e w6 ⟨u6, rfl, _, hs6, hok6, hf6, hlo6⟩
          have hz5 := hF5.size
          have hlo7 : locV (.slice a l.length cap) w u6 := by
            rcases hlo6 with h | h
            · rw [h]; exact hlo
            · exact .inr fun k hk => Nat.le_trans hz5 (h k hk)
          clear hlo6
          obtain ⟨a6, c6, rfl, _, _, _⟩ := hs6.open
          have hF6 := hF5.trans0 hf6
          replace B2 := B2.fr0 hf6
          replace B3 := B3.fr0 hf6
          replace B4 := B4.fr0 hf6
          clear b2'
          have b2 := B2.cell
          have f2 := B2.frozen
          have q2 := B2.lt
          have q3 := B3.lt
          clear keyS
          go_wp2
          go_roundw
          case rel =>
            have hfs := Fr.set3 w6 w.heap.size (.int .i64 S) (.int .i64 g) (.slice a6 N.length c6)
            refine ⟨n + 1, .slice a6 N.length c6, by omega, by go_num, ?_, hok6, hlo7, (((B2.setCell 0 _).setCell 1 _).setCell 2 _).alloc _, (B3.fr hfs (by simp)).alloc _, (B4.fr hfs (by simp)).alloc _, (hF6.trans1 hfs (Nat.le_refl _)).alloc _⟩
            rw [hst'.out]
            exact SlF.fr0 (SlB.keep hs6 B2 noB hfs) ((Fr.refl _ _).alloc _)
          case measure => simp [intOf]; omega
      · have hnS : n = S := by omega
        have hR : Hid (M n = RES) := hidIt (by rw [hnS, Hd.out])
        have hpp : ∀ w1, Fr [] w w1 → SlB w1 (.slice a1 (M n).length c1) (M n) → mrgPostL (.slice a l.length cap) S g RES 0 w (.returned (.tuple #[.agg #[.int .i64 S, .int .i64 g, .slice a1 (M n).length c1], .int .i64 0])) w1 := fun w1 hf hs => by
          rw [← hR.out]
          exact hpost _ _ _ _ ⟨⟨_, rfl, hs, hok1⟩, hS, hp, hML.out⟩ hf hlo
        replace hpp := hidIt hpp
        clear hR hnS Hst H0 Hd hpost
        have B4' := ((B4.setCell 0 (.int .i64 S)).setCell 1 (.int .i64 g)).setCell 2 (.slice a1 (M n).length c1)
        have hfs := Fr.set3 wr (w.heap.size + 2) (.int .i64 S) (.int .i64 g) (.slice a1 (M n).length c1)
        have hsz := SlB.keep hs1 B4 noB hfs
        have b4' := B4'.cell
        have hFz := hF.trans1 hfs (by omega)
        go_wp2
        exact bodyPost_ret (v := .tuple #[.agg #[.int .i64 S, .int .i64 g, .slice a1 (M n).length c1], .int .i64 0]) (by simp [results, Tryz.results74, go_sem, b4']) rfl (hpp.out _ hFz hsz)
  · rw [if_neg hSS, if_neg hSS]
    have hb : ((S : Int) == (S2 : Int)) = false := by simp; omega
    have hpost : ∀ er w1, RefB w1 (rb S g (.slice a l.length cap)) S g l → Fr [] w w1 → mrgPostL (.slice a l.length cap) S g l er w (.returned (.tuple #[.agg #[.int .i64 S, .int .i64 g, .slice a l.length cap], .int .i64 er])) w1 := fun er w1 h hf => ⟨_, rfl, h, hf, .inl rfl⟩
    have hFz := (((Fr.refl [] w).alloc (.cells #[.int .i64 S, .int .i64 g, .slice a l.length cap] 74)).alloc (.cells #[.int .i64 S2, .int .i64 g2, .slice a2 l2.length cap2] 74)).alloc (.cells #[.int .i64 S, .int .i64 g, .slice a l.length cap] 74)
    have hpp := hidIt (hpost 1 _ ⟨⟨_, rfl, SlF.fr0 hsl hFz, hok⟩, hS, hp, hl⟩ hFz)
    clear hpost hl hl2
    go_enter Tryz.func74, Tryz.ntmps74
    go_wp2
    exact bodyPost_ret (v := .tuple #[.agg #[.int .i64 S, .int .i64 g, .slice a l.length cap], .int .i64 1]) (by simp [results, Tryz.results74, go_sem]) rfl hpp.out
theorem rMerge_calls (S g : Nat) (u : Value) (l : List Bool) (S2 g2 : Nat) (u2 : Value) (l2 : List Bool) (w : World) (h : RefB w (rb S g u) S g l) (h2 : RefB w (rb S2 g2 u2) S2 g2 l2) :
    Calls Tryz.prog 74 #[rb S g u, rb S2 g2 u2] w (mrgPost S g (if S = S2 then mrg S g l g2 l2 else l) (if S = S2 then 0 else 1) w) := by
  refine (rMergeL_calls S g u l S2 g2 u2 l2 w h h2).mono ?_
  rintro e w' ⟨u', h1, h2, h3, _⟩
  exact ⟨u', h1, h2, h3⟩
/-! ### bits.Merge -/
section
attribute [local go_sem] Oper.semAt_some

set_option maxRecDepth 100000 in
set_option maxHeartbeats 1600000 in
theorem Merge_nil (tb mb S g : Nat) (l : List Bool) (w : World) (h : BitW w tb mb S g l) : Calls Tryz.prog 82 #[.pointer (some ⟨tb, 0, none⟩), .pointer none] w fun e w' => e = .returned (.int .i64 1) ∧ Fr [] w w' := by
  have c := h.blk.cell
  have hlt := h.lt
  refine calls_marks Tryz.func82 rfl ?_
  simp only [Tryz.ntmps82, List.size_toArray, List.length_cons, List.length_nil, Nat.reduceAdd, Nat.reduceSub, Array.replicate_succ, Array.replicate_zero, List.push_toArray, List.append_toArray, List.nil_append, List.cons_append]
  go_wp2_with fail
  go_quiet (fail)
  go_wp2
  exact leave_plain rfl (results_tmp rfl _ _ _) ⟨rfl, ((Fr.refl _ _).alloc _).drewN _⟩
set_option maxRecDepth 100000 in
set_option maxHeartbeats 1600000 in
theorem Merge_no (tb mb S g : Nat) (l : List Bool) (tb2 mb2 S2 g2 : Nat) (l2 : List Bool) (w : World) (h : BitW w tb mb S g l) (h2 : BitW w tb2 mb2 S2 g2 l2) (hS : ¬ S = S2) :
    Calls Tryz.prog 82 #[.pointer (some ⟨tb, 0, none⟩), .pointer (some ⟨tb2, 0, none⟩)] w fun e w' => e = .returned (.int .i64 1) ∧ Fr [] w w' := by
  have hb : ((S2 : Int) == (S : Int)) = false := by simp; omega
  have hfa := (Fr.refl [] w).alloc (.cells #[.pointer (some ⟨tb, 0, none⟩)] 49)
  have c := (h.fr0 hfa).blk.cell
  have c2 := (h2.fr0 hfa).blk.cell
  have hlt := h.lt
  refine calls_marks Tryz.func82 rfl ?_
  simp only [Tryz.ntmps82, List.size_toArray, List.length_cons, List.length_nil, Nat.reduceAdd, Nat.reduceSub, Array.replicate_succ, Array.replicate_zero, List.push_toArray, List.append_toArray, List.nil_append, List.cons_append]
  go_wp2_with fail
  go_quiet (fail)
  go_wp2
  exact leave_plain rfl (results_tmp rfl _ _ _) ⟨rfl, ((Fr.refl _ _).alloc _).drewN _⟩
set_option maxRecDepth 100000 in
set_option maxHeartbeats 2400000 in
theorem Merge_yes (tb mb S g : Nat) (l : List Bool) (tb2 mb2 g2 : Nat) (l2 : List Bool) (w : World) (h : BitW w tb mb S g l) (h2 : BitW w tb2 mb2 S g2 l2) :
    Calls Tryz.prog 82 #[.pointer (some ⟨tb, 0, none⟩), .pointer (some ⟨tb2, 0, none⟩)] w fun e w' => e = .returned (.int .i64 0) ∧ BitW w' tb mb S g (mrg S g l g2 l2) ∧ Fr [mb] w w' := by
  have hg := h.grain
  have hS := h.size
  have hl := h.len
  have Hres : Hid (foldX S g (ofKind (ofE (kindsB S g2 l2 S)) 1) l = mrg S g l g2 l2) := hidIt (mrg_fold hg.1 hl hS)
  have keyR := fun w h => Row_calls tb2 mb2 S g2 l2 w h
  have keyS := fun bl bk vl w h1 h2 h3 => each_seq bl bk vl (ofE (kindsB S g2 l2 S)) 1 w h1 h2 h3
  have Hpos : ∀ k, k < (ofKind (ofE (kindsB S g2 l2 S)) 1).length → Hid (0 ≤ ((ofKind (ofE (kindsB S g2 l2 S)) 1).getD k z3).1 ∧ 0 ≤ ((ofKind (ofE (kindsB S g2 l2 S)) 1).getD k z3).2.1 ∧ ((ofKind (ofE (kindsB S g2 l2 S)) 1).getD k z3).1 + ((ofKind (ofE (kindsB S g2 l2 S)) 1).getD k z3).2.1 ≤ S) := fun k hk => hidIt (by
    have hm := List.mem_of_getElem? (getD_some z3 hk)
    have hm2 := (List.mem_filter.1 hm).1
    rw [kinds_ofE (by rw [kindsB_len]; omega)] at hm2
    obtain ⟨i, hi, hie⟩ := List.getElem_of_mem hm2
    have hR := RightE.of (kindsB S g2 l2 S)
    have h1 := hR.2 i hi
    have h2 := flat_take_le (ofE (kindsB S g2 l2 S)) (i + 1)
    rw [flat_step hi, List.length_append, List.length_replicate, hR.1, kindsB_len] at h2
    have hge : (ofE (kindsB S g2 l2 S))[i] = (ofE (kindsB S g2 l2 S)).getD i z3 := by rw [List.getD_eq_getElem?_getD, List.getElem?_eq_getElem hi]; rfl
    rw [hge] at hie
    rw [← hie]
    omega)
  have Hst : ∀ k, k < (ofKind (ofE (kindsB S g2 l2 S)) 1).length → Hid (foldX S g ((ofKind (ofE (kindsB S g2 l2 S)) 1).take (k + 1)) l = bSet S g (foldX S g ((ofKind (ofE (kindsB S g2 l2 S)) 1).take k) l) ((ofKind (ofE (kindsB S g2 l2 S)) 1).getD k z3).1.toNat ((ofKind (ofE (kindsB S g2 l2 S)) 1).getD k z3).2.1.toNat) := fun k hk => hidIt (by
    have hge : (ofKind (ofE (kindsB S g2 l2 S)) 1)[k] = (ofKind (ofE (kindsB S g2 l2 S)) 1).getD k z3 := by rw [List.getD_eq_getElem?_getD, List.getElem?_eq_getElem hk]; rfl
    rw [List.take_succ_eq_append_getElem hk, hge, foldX_snoc])
  generalize ofKind (ofE (kindsB S g2 l2 S)) 1 = xs at *
  generalize mrg S g l g2 l2 = RES at *
  generalize ofE (kindsB S g2 l2 S) = E at *
  have hb : ((S : Int) == (S : Int)) = true := by simp
  have hfa := (Fr.refl [] w).alloc (.cells #[.pointer (some ⟨tb, 0, none⟩)] 49)
  have B2 := Blk.new w [.pointer (some ⟨tb, 0, none⟩)] 49
  have c := (h.fr0 hfa).blk.cell
  have c2 := (h2.fr0 hfa).blk.cell
  have hlt := h.lt
  have hne := h.ne
  refine calls_marks Tryz.func82 rfl ?_
  simp only [Tryz.ntmps82, List.size_toArray, List.length_cons, List.length_nil, Nat.reduceAdd, Nat.reduceSub, Array.replicate_succ, Array.replicate_zero, List.push_toArray, List.append_toArray, List.nil_append, List.cons_append]
  go_wp2_with fail
  go_quiet (fail)
  rename_i nq
  have hFq := hfa.drewN nq
  replace B2 := B2.drewN nq
  generalize hwq : World.drewN _ nq = wq at *
  have h0 := h.fr0 hFq
  have h20 := h2.fr0 hFq
  clear c c2 hfa hwq
  go_wp2_with fail
  refine (keyR _ h20).mono ?_
  rintro e w1 ⟨v1, rfl, s1, hf1⟩
  obtain ⟨a1, c1, rfl, _, _, _⟩ := s1.open
  replace B2 := B2.fr0 hf1
  have hF1 := hFq.trans0 hf1
  clear hf1 h0 h20 hFq
  go_wp2_with fail
  refine (sEach_calls _ 1 a1 E.length c1 rfl _).mono ?_
  rintro e w2 ⟨bl, bk, rfl, hbl, hbk, hf2, hb1, hb2⟩
  replace B2 := B2.fr0 hf2
  have hF2 := hF1.trans0 hf2
  have h0 := h.fr0 hF2
  have hseq := keyS _ _ _ w2 hbl hbk (SlF.fr0 s1 hf2)
  have hz1 := hF1.size
  have hz2 := hF2.size
  have lq := B2.lt
  have lk := hbk.lt
  have heg : ∀ args w, (callFunc 101 args).run Tryz.prog w = .ok (.enter 101 args) w := enters_of Tryz.func101 (by kernel_rfl) rfl
  clear keyR keyS hbl hbk s1 hf2 hF1
  go_wp2_with fail
  refine wp_rangeFunc_seq rfl heg hseq (Fr.refl _ _) (fun k f A => f = [mb] ∧ BitW A tb mb S g (foldX S g (xs.take k) l) ∧ Blk A w.heap.size [.pointer (some ⟨tb, 0, none⟩)] 49 ∧ Fr [mb] w A) (fun _ _ _ => False) [mb] ?st (fun _ _ _ _ _ h _ _ => h) (by simp) (fun x hx => by have := List.mem_singleton.1 hx; subst this; exact ⟨by omega, fun h => by omega⟩) ⟨rfl, h0, B2, hF2.weak⟩ ?round ?done (fun _ _ _ _ _ _ h _ => h.elim)
  case st =>
    rintro k f A B M' ⟨rfl, hW, hb2, hf⟩ hF hM
    have nm : ∀ x, x < w2.heap.size → x ∉ M' := fun x hx hm => by rcases hM x hm with h | h; cases h; omega
    exact ⟨rfl, hW.fr hF (nm _ (by omega)) (nm _ (by omega)), stab_blk hb2 hF hM lq (by simp), hf.trans hF (fun x hx hlt => absurd hx (nm x (by omega)))⟩
  case round =>
    rintro lp k f A args h1 h2' h3 h4 hk ⟨hfe, hW, hb2, hf⟩ rfl
    refine ⟨rfl, ?_⟩
    have hst := Hst k hk
    have hp := Hpos k hk
    clear hseq heg Hst Hpos Hres
    generalize xs.getD k z3 = x at *
    obtain ⟨p, q, r⟩ := x
    simp only at hst hp ⊢
    obtain ⟨p1, p2, p3⟩ := hp.out
    obtain ⟨P, rfl⟩ := Int.eq_ofNat_of_zero_le p1
    obtain ⟨Q, rfl⟩ := Int.eq_ofNat_of_zero_le p2
    rw [Int.toNat_natCast, Int.toNat_natCast] at hst
    gi_wp2
    refine ⟨⟨hfe, hW, hb2, hf⟩, Fr.refl _ _, ?_⟩
    clear hW hb2 hf hfe
    rintro A2 ⟨rfl, hW, hb2, hf⟩ hF2 hsz2
    have hA2 : w2.heap.size ≤ A2.heap.size := by omega
    clear hsz2 hF2
    have cb := hb2.cell
    gi_wp2_with fail
    refine ⟨trivial, rfl, (CallsIn.inRound lp (callsIn_wide.2 (Set_yes tb mb S g _ P Q A2 hW (by omega)))).mono ?_⟩
    rintro e w5 ⟨rfl, hW5, hf5⟩
    have q5 := hf5.size
    gi_wp2
    exact ⟨_, ⟨rfl, by rw [hst.out]; exact hW5, hb2.fr hf5 (by simp; omega), hf.trans' hf5⟩, hf5, fun y hy => by have := List.mem_singleton.1 hy; subst this; exact ⟨by omega, .inl hy⟩⟩
  case done =>
    rintro D f W h1 h2' ⟨rfl, hW, hb2, hf⟩ hK
    rw [List.take_length, Hres.out] at hW
    clear hseq heg Hst Hpos Hres
    go_wp2
    refine leave_mark rfl hK (fun W' _ => results_tmp rfl _ _ _) fun W' hF => ⟨rfl, hW.fr hF (by simp; omega) (by simp; omega), hf.trans hF (fun x hx hlt => by have := List.mem_singleton.1 hx; omega)⟩
end
/-! ### the walk -/
theorem Merge_any (tb mb S g : Nat) (l : List Bool) (tb2 mb2 S2 g2 : Nat) (l2 : List Bool) (w : World) (h : BitW w tb mb S g l) (h2 : BitW w tb2 mb2 S2 g2 l2) :
    Calls Tryz.prog 82 #[.pointer (some ⟨tb, 0, none⟩), .pointer (some ⟨tb2, 0, none⟩)] w fun e w' => e = .returned (.int .i64 (if S = S2 then 0 else 1)) ∧ BitW w' tb mb S g (if S = S2 then mrg S g l g2 l2 else l) ∧ Fr [mb] w w' := by
  by_cases hS : S = S2
  · subst hS
    rw [if_pos rfl, if_pos rfl]
    exact Merge_yes tb mb S g l tb2 mb2 g2 l2 w h h2
  · rw [if_neg hS, if_neg hS]
    refine (Merge_no tb mb S g l tb2 mb2 S2 g2 l2 w h h2 hS).mono ?_
    rintro e w' ⟨rfl, hf⟩
    exact ⟨rfl, h.fr0 hf, hf.weak⟩
end Go.Proofs.YtiifmakhfpllnaaGreat
