/-
  The document's image (layer 12), in plain Lean, and what it shares with the program's: cells by numbers.
-/
import Derived.Test.YtilhbjjjmdnjmaaGreatM34
import Derived.Test.YtilhbjjjmdnjmaaGreatM35
namespace Go.Proofs.YtilhbjjjmdnjmaaGreat
open Go.RowKit

abbrev RCel := Int × Int
def zRC : RCel := (0, 0)
structure RIm where
  mn : Nat
  rm : Nat
  c : List RCel
  s : List (By × List RCel)
  d : List By
def isId (id : Int) (x : RCel) : Bool := decide (x.1 = 1) && decide (x.2 = id)
def cntC (l : List RCel) (id : Int) : Nat := l.countP (isId id)
def cntSC (s : List (By × List RCel)) (id : Int) : Nat := (s.map fun p => cntC p.2 id).sum
def rrefs (R : RIm) (id : Int) : Nat := cntC R.c id + cntSC R.s id
def usedN (R : RIm) (k : Nat) : Nat := (List.range k).countP fun (id : Nat) => decide (0 < rrefs R (id : Int))
def rfree (R : RIm) : Int := (R.rm : Int) - (usedN R R.d.length : Int)
def rk (R : RIm) (c : Nat) : Int := (R.c.getD c zRC).1
def rid (R : RIm) (c : Nat) : Int := (R.c.getD c zRC).2
def rclu (R : RIm) (c : Nat) (bel : List By) : By := if rk R c = 1 then R.d.getD (rid R c).toNat [] else if rk R c = 0 ∧ (bel.getD c []).length = 16 * R.mn then bel.getD c [] else zBy (16 * R.mn)
def rset (R : RIm) (c : Nat) (x : RCel) : RIm := { R with c := R.c.set c x }
def rown (R : RIm) (c : Nat) : Bool := decide (rk R c = 1) && decide (rrefs R (rid R c) = 1)
def rput (R : RIm) (c : Nat) (x : By) : RIm := if rown R c = true then { R with d := R.d.set (rid R c).toNat x } else { R with d := R.d ++ [x], c := R.c.set c (1, (R.d.length : Int)) }
def rins (mn c a l : Nat) : Nat := (List.range mn).countP fun k => decide (a ≤ c * mn + k) && decide (c * mn + k < a + l)
def rlaid (mn : Nat) (x : By) (c a : Nat) (b : By) : By := (List.range mn).flatMap fun k => if a ≤ c * mn + k ∧ 16 * (c * mn + k - a) + 16 ≤ b.length then (b.drop (16 * (c * mn + k - a))).take 16 else (x.drop (16 * k)).take 16
def rread (R : RIm) (a l : Nat) : By := (List.range l).flatMap fun i => ((rclu R ((a + i) / R.mn) []).drop (16 * ((a + i) % R.mn))).take 16
def rinside (R : RIm) (x l : Int) : Int := if l < 0 then 1 else if x < 0 ∨ x > ((R.mn * R.c.length : Nat) : Int) ∨ l > ((R.mn * R.c.length : Nat) : Int) - x then 121 else 0
def rwK (zero : Bool) (R : RIm) (a l : Nat) (b : By) (bel : List By) (c : Nat) : RIm :=
  if rins R.mn c a l = 0 ∨ (zero = true ∧ rins R.mn c a l < R.mn ∧ rk R c = 2) then R else if zero = true ∧ rins R.mn c a l = R.mn then rset R c (2, 0) else rput R c (rlaid R.mn (rclu R c bel) c a b)
def rwN (zero : Bool) (R : RIm) (a l : Nat) (b : By) (bel : List By) : Nat → RIm
  | 0 => R
  | k + 1 => rwK zero (rwN zero R a l b bel k) a l b bel k
def rneedK (zero : Bool) (R : RIm) (a l c : Nat) : Bool := decide (0 < rins R.mn c a l) && !(zero && (decide (rins R.mn c a l = R.mn) || decide (rk R c = 2))) && !rown R c
def rneedN (zero : Bool) (R : RIm) (a l k : Nat) : Nat := (List.range k).countP (rneedK zero R a l)
def rwriteE (zero : Bool) (R : RIm) (x : Int) (b : By) (bel : List By) : Int × RIm :=
  if b.length % 16 ≠ 0 then (1, R) else if rinside R x (b.length / 16 : Nat) ≠ 0 then (rinside R x (b.length / 16 : Nat), R)
  else if rfree R < (rneedN zero R x.toNat (b.length / 16) R.c.length : Int) then (120, R) else (0, rwN zero R x.toNat (b.length / 16) b bel R.c.length)
def rdN (R : RIm) (a l : Nat) : Nat → RIm
  | 0 => R
  | k + 1 => if rins R.mn k a l = R.mn then rset (rdN R a l k) k (0, 0) else rdN R a l k
def rdiscE (R : RIm) (x l : Int) : Int × RIm := if rinside R x l ≠ 0 then (rinside R x l, R) else (0, rdN R x.toNat l.toNat R.c.length)
def rfindI (s : List (By × List RCel)) (nm : By) : Option Nat := s.findIdx? fun q => decide (q.1 = nm)
def zRQ : By × List RCel := ([], [])
def rsnapE (R : RIm) (k : Int) (nm : By) : Int × RIm :=
  if k = 5 then (if okName nm = false then (1, R) else if (rfindI R.s nm).isSome = true ∨ 8 ≤ R.s.length then (123, R) else (0, { R with s := R.s ++ [(nm, R.c)] }))
  else match rfindI R.s nm with
    | none => (122, R)
    | some i => if k = 6 then (0, { R with c := (R.s.getD i zRQ).2 }) else (0, { R with s := R.s.eraseIdx i })
def rsizeE (R : RIm) (n : Int) : Int × RIm := if 0 ≤ n ∧ n ≤ 256 then (0, { R with c := R.c.take n.toNat ++ List.replicate (n.toNat - R.c.length) zRC }) else (1, R)
def rzeroE (R : RIm) (x l : Int) (bel : List By) : Int × RIm := if rinside R x l ≠ 0 then (rinside R x l, R) else rwriteE true R x (zBy (16 * l.toNat)) bel
def rdoE (R : RIm) (o : OpI) (bel : List By) : Int × RIm :=
  if o.k = 0 then (rinside R o.x o.lo, R) else if o.k = 1 then rwriteE false R o.x o.b bel else if o.k = 2 then rzeroE R o.x o.lo bel else if o.k = 3 then rdiscE R o.x o.lo
  else if o.k = 4 then rsizeE R o.lo else if o.k = 5 ∨ o.k = 6 ∨ o.k = 7 then rsnapE R o.k o.nm else (0, R)
def rdoR (R : RIm) (o : OpI) : By := if o.k = 0 ∧ rinside R o.x o.lo = 0 then rread R o.x.toNat o.lo.toNat else []

/-! ### the same image -/
def cel (f : Nat → Nat) (s : Slt) : RCel := (s.1, if s.1 = 1 then (f (hst s) : Int) else 0)
structure Sim (M : Img) (R : RIm) (f : Nat → Nat) : Prop where
  mn : R.mn = 2 ^ M.B
  rm : R.rm = M.n.length
  c : R.c = M.t.map (cel f)
  s : R.s = M.s.map fun p => (p.1, p.2.map (cel f))
  lt : ∀ h, 0 < ng M h → f h < R.d.length
  d : ∀ h, 0 < ng M h → M.d h = some (R.d.getD (f h) [])
  inj : ∀ h h', 0 < ng M h → 0 < ng M h' → f h = f h' → h = h'
theorem cel_one {f : Nat → Nat} {s : Slt} (h : s.1 = 1) : cel f s = (1, (f (hst s) : Int)) := by unfold cel; rw [if_pos h, h]
theorem cel_no {f : Nat → Nat} {s : Slt} (h : s.1 ≠ 1) : cel f s = (s.1, 0) := by unfold cel; rw [if_neg h]
theorem cel_zS (f : Nat → Nat) : cel f zS = zRC := rfl
section
variable {M : Img} {R : RIm} {f : Nat → Nat} (h : Sim M R f) (hk : OkI M)
include h
theorem Sim.z : M.z = 16 * R.mn := by unfold Img.z; rw [h.mn]
theorem Sim.len : R.c.length = M.t.length := by rw [h.c, List.length_map]
theorem Sim.slen : R.s.length = M.s.length := by rw [h.s, List.length_map]
theorem Sim.mn_pos : 0 < R.mn := by rw [h.mn]; exact Nat.two_pow_pos _
theorem Sim.at_ (c : Nat) : R.c.getD c zRC = cel f (M.t.getD c zS) := by
  rw [h.c]
  by_cases hc : c < M.t.length
  · simp only [List.getD_eq_getElem?_getD, List.getElem?_map, List.getElem?_eq_getElem hc]
    rfl
  · simp only [List.getD_eq_getElem?_getD, List.getElem?_map, List.getElem?_eq_none (Nat.le_of_not_lt hc)]
    rfl
theorem Sim.rk_ (c : Nat) : rk R c = (M.t.getD c zS).1 := by unfold rk; rw [h.at_]; rfl
theorem Sim.kinds (c : Nat) : (R.c.getD c zRC).1 = (tget M.t c).1 := by
  rw [tget_nat]
  exact h.rk_ c
theorem cntC_map {l : List Slt} (hl : ∀ s ∈ l, s.1 = 1 → 0 < ng M (hst s)) {j : Nat} (hj : 0 < ng M j) : cntC (l.map (cel f)) (f j : Int) = cntT l j := by
  unfold cntC cntT
  rw [List.countP_map]
  refine List.countP_congr fun s hs => ?_
  simp only [Function.comp]
  by_cases h1 : s.1 = 1
  · rw [cel_one h1]
    simp only [isId, isH, h1, decide_true, Bool.true_and, decide_eq_true_eq]
    constructor
    · intro e
      exact h.inj _ _ (hl s hs h1) hj (by omega)
    · intro e; rw [e]
  · rw [cel_no h1]
    simp [isId, isH, h1]
include hk
theorem Sim.refs_ {j : Nat} (hj : 0 < ng M j) : rrefs R (f j : Int) = ng M j := by
  rw [hk.cnt]
  unfold rrefs refs
  rw [h.c, cntC_map h (fun s hs h1 => hk.live hs h1) hj]
  congr 1
  unfold cntSC cntS
  rw [h.s, List.map_map]
  congr 1
  exact List.map_congr_left fun p hp => cntC_map h (fun s hs h1 => hk.lives hp hs h1) hj
theorem Sim.used {id : Int} (hp : 0 < rrefs R id) : ∃ j, 0 < ng M j ∧ id = (f j : Int) := by
  have aux : ∀ l : List Slt, (∀ s ∈ l, s.1 = 1 → 0 < ng M (hst s)) → 0 < cntC (l.map (cel f)) id → ∃ j, 0 < ng M j ∧ id = (f j : Int) := fun l hl hc => by
    unfold cntC at hc
    obtain ⟨x, hx, hi⟩ := List.countP_pos_iff.1 hc
    obtain ⟨s, hs, rfl⟩ := List.mem_map.1 hx
    by_cases h1 : s.1 = 1
    · rw [cel_one h1] at hi
      simp [isId] at hi
      exact ⟨hst s, hl s hs h1, hi.symm⟩
    · rw [cel_no h1] at hi
      simp [isId, h1] at hi
  unfold rrefs at hp
  by_cases h1 : 0 < cntC R.c id
  · rw [h.c] at h1
    exact aux M.t (fun s hs h1 => hk.live hs h1) h1
  · have h2 : 0 < cntSC R.s id := by omega
    unfold cntSC at h2
    have : ∃ p ∈ R.s, 0 < cntC p.2 id := by
      refine Classical.byContradiction fun hno => ?_
      have hz : (R.s.map fun p => cntC p.2 id).sum = 0 := by
        have : ∀ l : List (By × List RCel), (∀ p ∈ l, ¬ 0 < cntC p.2 id) → (l.map fun p => cntC p.2 id).sum = 0 := by
          intro l
          induction l with
          | nil => simp
          | cons p l ih =>
            intro hl
            have h3 := hl p List.mem_cons_self
            have h4 := ih fun q hq => hl q (List.mem_cons_of_mem _ hq)
            simp only [List.map_cons, List.sum_cons]
            omega
        exact this R.s fun p hp hc => hno ⟨p, hp, hc⟩
      omega
    obtain ⟨p, hp, hc⟩ := this
    rw [h.s] at hp
    obtain ⟨q, hq, rfl⟩ := List.mem_map.1 hp
    exact aux q.2 (fun s hs h1 => hk.lives hq hs h1) hc
theorem Sim.own_ (c : Nat) : rown R c = !needB (M.t.getD c zS) := by
  unfold rown needB
  rw [h.rk_, Bool.not_not]
  by_cases h1 : (M.t.getD c zS).1 = 1
  · have hc : c < M.t.length := by
      refine Classical.byContradiction fun hc => ?_
      rw [getD_outS hc] at h1
      simp [zS] at h1
    have hl := hk.live (getD_memS hc) h1
    have e : rid R c = (f (hst (M.t.getD c zS)) : Int) := by unfold rid; rw [h.at_, cel_one h1]
    rw [e, h.refs_ hk hl, hk.own _ (getD_memS hc) h1]
  · rw [decide_eq_false h1]
    rfl
theorem Sim.clu (c : Nat) (bel : List By) : rclu R c bel = cluB M c bel := by
  unfold rclu cluB
  rw [h.rk_, h.z]
  by_cases h1 : (M.t.getD c zS).1 = 1
  · rw [if_pos h1, if_pos h1]
    have hc : c < M.t.length := by
      refine Classical.byContradiction fun hc => ?_
      rw [getD_outS hc] at h1
      simp [zS] at h1
    have hl := hk.live (getD_memS hc) h1
    have e : rid R c = (f (hst (M.t.getD c zS)) : Int) := by unfold rid; rw [h.at_, cel_one h1]
    rw [e, Int.toNat_natCast, h.d _ hl]
    rfl
  · rw [if_neg h1, if_neg h1]
end
/-! ### how many are used -/
theorem cnt_or (A : Nat → Bool) (a : Nat) : ∀ D, a < D → A a = false → (List.range D).countP (fun id => A id || decide (a = id)) = (List.range D).countP A + 1
  | 0, ha, _ => by omega
  | D + 1, ha, hA => by
    rw [List.range_succ, List.countP_append, List.countP_append]
    by_cases e : a = D
    · subst e
      have : (List.range a).countP (fun id => A id || decide (a = id)) = (List.range a).countP A := List.countP_congr fun x hx => by
        have := List.mem_range.1 hx
        have hne : a ≠ x := by omega
        simp [hne]
      rw [this]
      simp [hA]
    · rw [cnt_or A a D (by omega) hA]
      simp [List.countP_cons, e]
      omega
theorem cnt_img (f : Nat → Nat) (P : Nat → Bool) (D : Nat) : ∀ r, (∀ j, P j = true → f j < D) → (∀ j j', P j = true → P j' = true → f j = f j' → j = j') →
    (List.range D).countP (fun id => (List.range r).any fun j => P j && decide (f j = id)) = (List.range r).countP P
  | 0, _, _ => by simp
  | r + 1, h1, h2 => by
    have ih := cnt_img f P D r h1 h2
    rw [List.range_succ (n := r), List.countP_append]
    simp only [List.any_append, List.any_cons, List.any_nil, Bool.or_false, List.countP_cons, List.countP_nil, Nat.zero_add]
    cases hp : P r with
    | false =>
      simp only [Bool.false_and, Bool.or_false]
      rw [ih]
      simp
    | true =>
      simp only [Bool.true_and]
      rw [cnt_or _ (f r) D (h1 r hp) ?_, ih]
      · simp
      · rw [Bool.eq_false_iff]
        intro hc
        obtain ⟨j, hj, hc⟩ := List.any_eq_true.1 hc
        simp only [Bool.and_eq_true, decide_eq_true_eq] at hc
        have := h2 j r hc.1 hp hc.2
        have := List.mem_range.1 hj
        omega
theorem cnt_at (n : List Nat) : (List.range n.length).countP (fun j => decide (0 < n.getD j 0)) + n.countP (fun x => decide (x = 0)) = n.length := by
  have e : (List.range n.length).countP (fun j => decide (0 < n.getD j 0)) = n.countP (fun x => decide (0 < x)) := by
    have hm : (List.range n.length).map (fun j => n.getD j 0) = n := by
      apply List.ext_getElem (by simp)
      intro i h1 h2
      simp only [List.getElem_map, List.getElem_range]
      rw [List.getD_eq_getElem?_getD, List.getElem?_eq_getElem h2]
      rfl
    have := congrArg (List.countP fun x => decide (0 < x)) hm
    rw [List.countP_map] at this
    exact this
  rw [e]
  induction n with
  | nil => rfl
  | cons x l ih =>
    have ih' := ih (by
      have hm : (List.range l.length).map (fun j => l.getD j 0) = l := by
        apply List.ext_getElem (by simp)
        intro i h1 h2
        simp only [List.getElem_map, List.getElem_range]
        rw [List.getD_eq_getElem?_getD, List.getElem?_eq_getElem h2]
        rfl
      have := congrArg (List.countP fun x => decide (0 < x)) hm
      rw [List.countP_map] at this
      exact this)
    simp only [List.countP_cons, List.length_cons]
    by_cases hx : x = 0
    · subst hx
      simp
      omega
    · have : 0 < x := by omega
      simp [hx, this]
      omega
theorem Sim.free {M : Img} {R : RIm} {f : Nat → Nat} (h : Sim M R f) (hk : OkI M) : rfree R = (freeN M.n : Int) := by
  have e : usedN R R.d.length = (List.range M.n.length).countP (fun j => decide (0 < ng M j)) := by
    rw [← cnt_img f (fun j => decide (0 < ng M j)) R.d.length M.n.length (fun j hj => h.lt j (by simpa using hj)) (fun j j' hj hj' => h.inj j j' (by simpa using hj) (by simpa using hj'))]
    unfold usedN
    refine List.countP_congr fun id _ => ?_
    rw [decide_eq_true_iff, List.any_eq_true]
    constructor
    · intro hp
      obtain ⟨j, hj, he⟩ := h.used hk hp
      exact ⟨j, List.mem_range.2 (ng_lt hj), by simp; exact ⟨hj, by omega⟩⟩
    · rintro ⟨j, _, hj⟩
      simp only [Bool.and_eq_true, decide_eq_true_eq] at hj
      rw [← hj.2, h.refs_ hk hj.1]
      exact hj.1
  unfold rfree
  rw [e, h.rm]
  have := cnt_at M.n
  unfold ng freeN
  omega
end Go.Proofs.YtilhbjjjmdnjmaaGreat

namespace Go.Proofs.YtilhbjjjmdnjmaaGreat
open Go.RowKit

theorem Sim.mono {M M' : Img} {R R' : RIm} {f : Nat → Nat} (h : Sim M R f) (hB : M'.B = M.B) (hn : M'.n.length = M.n.length) (hl : ∀ k, 0 < ng M' k → 0 < ng M k ∧ M'.d k = M.d k)
    (hm : R'.mn = R.mn) (hr : R'.rm = R.rm) (hc : R'.c = M'.t.map (cel f)) (hs : R'.s = M'.s.map fun p => (p.1, p.2.map (cel f))) (hd : R'.d = R.d) : Sim M' R' f :=
  ⟨by rw [hm, h.mn, hB], by rw [hr, h.rm, hn], hc, hs, fun j hj => by rw [hd]; exact h.lt j (hl j hj).1, fun j hj => by rw [hd, (hl j hj).2]; exact h.d j (hl j hj).1, fun j j' hj hj' => h.inj j j' (hl j hj).1 (hl j' hj').1⟩
theorem owns_cel (M : Img) (f : Nat → Nat) (l : List Slt) : (l.map (ownI M)).map (cel f) = l.map (cel f) := by
  rw [List.map_map]
  refine List.map_congr_left fun s _ => ?_
  simp only [Function.comp, cel, (own_hst M s).1, (own_hst M s).2]
theorem map_erase {α β : Type} (g : α → β) : ∀ (l : List α) (k : Nat), (l.eraseIdx k).map g = (l.map g).eraseIdx k
  | [], k => by simp
  | x :: l, 0 => rfl
  | x :: l, k + 1 => by simp [map_erase g l k]
section
variable {M : Img} {R : RIm} {f : Nat → Nat} (h : Sim M R f) (hk : OkI M)
include h hk
theorem Sim.set_ {c : Nat} (hc : c < M.t.length) {s : Slt} (h1 : s.1 ≠ 1) : Sim (setI M c s) (rset R c (s.1, 0)) f := by
  have hs := set_len (M := M) (c := c) (s := s)
  refine h.mono hs.2.1 hs.2.2.2.1 (fun j hj => ⟨?_, set_dlive hk.toOkJ hc hj⟩) rfl rfl ?_ ?_ rfl
  · rw [set_ng hk.toOkJ hc] at hj
    omega
  · show R.c.set c (s.1, 0) = _
    rw [hs.2.2.2.2, List.map_set, h.c, cel_no h1]
  · rw [hs.2.2.1]; exact h.s
theorem Sim.put_ {c fr : Nat} {b x y : By} (hc : c < M.t.length) (hx : x.length = M.z) (hfree : needB (M.t.getD c zS) = true → 0 < freeN M.n)
    (hy : y = spl (if needB (M.t.getD c zS) = true then x else conC M c) fr b) : ∃ f', Sim (putI M c fr b x) (rput R c y) f' := by
  have ho := h.own_ hk c
  unfold putI rput
  by_cases hn : needB (M.t.getD c zS) = true
  · rw [if_pos hn] at hy ⊢
    rw [ho, hn, if_neg (by simp)]
    obtain ⟨hk1, hk2⟩ := fr1_lt (hfree hn)
    generalize fr1 M.n = k at *
    have hk2' : ng M k = 0 := hk2
    have hkp := putN_keep (M := M) (c := c) (k := k) (x := x)
    have hok := putN_ok hk hc hk1 hk2' x hx
    have hlive : ∀ j, 0 < ng (putN M c k x) j → j ≠ k → 0 < ng M j := fun j hj hne => by
      rw [putN_ng hk hc hk1 x] at hj
      rw [if_neg hne] at hj
      omega
    have hne : ∀ s : Slt, (s.1 = 1 → 0 < ng M (hst s)) → cel (fun j => if j = k then R.d.length else f j) s = cel f s := fun s hs => by
      by_cases h1 : s.1 = 1
      · have := hs h1
        rw [cel_one h1, cel_one h1, if_neg (by intro e; rw [e] at this; omega)]
      · rw [cel_no h1, cel_no h1]
    refine ⟨fun j => if j = k then R.d.length else f j, ?_, ?_, ?_, ?_, fun j hj => ?_, fun j hj => ?_, fun j j' hj hj' => ?_⟩
    · show R.mn = 2 ^ (putN M c k x).B
      rw [hkp.2.1]; exact h.mn
    · show R.rm = (putN M c k x).n.length
      rw [hkp.2.2.2]; exact h.rm
    · show R.c.set c (1, (R.d.length : Int)) = (putN M c k x).t.map _
      rw [hkp.1, List.map_set, h.c]
      congr 1
      · exact (List.map_congr_left fun s hs => hne s fun h1 => hk.live hs h1).symm
      · rw [cel_one (s := (1, (k : Int), true)) rfl]
        simp [hst]
    · show R.s = (putN M c k x).s.map _
      rw [hkp.2.2.1, h.s]
      refine List.map_congr_left fun p hp => ?_
      congr 1
      exact (List.map_congr_left fun s hs => hne s fun h1 => hk.lives hp hs h1).symm
    · replace hj : 0 < ng (putN M c k x) j := hj
      show _ < (R.d ++ [y]).length
      rw [List.length_append]
      simp only [List.length_cons, List.length_nil]
      split
      · omega
      · rename_i hne
        have := h.lt j (hlive j hj hne)
        omega
    · replace hj : 0 < ng (putN M c k x) j := hj
      show setF (putN M c k x).d k _ j = some ((R.d ++ [y]).getD _ [])
      unfold setF
      by_cases e : j = k
      · rw [if_pos e, if_pos e]
        have hd : (putN M c k x).d k = some x := by rw [putN_d hk hc hk1 hk2' x, if_pos rfl]
        rw [hd, List.getD_eq_getElem?_getD, List.getElem?_append_right (Nat.le_refl _), Nat.sub_self, hy]
        rfl
      · rw [if_neg e, if_neg e, putN_dlive hk hc hk1 hk2' x hj e]
        have hl := hlive j hj e
        rw [h.d j hl, List.getD_eq_getElem?_getD, List.getD_eq_getElem?_getD, List.getElem?_append_left (h.lt j hl)]
    · replace hj : 0 < ng (putN M c k x) j := hj
      replace hj' : 0 < ng (putN M c k x) j' := hj'
      intro he
      replace he : (if j = k then R.d.length else f j) = (if j' = k then R.d.length else f j') := he
      by_cases e : j = k
      · by_cases e' : j' = k
        · rw [e, e']
        · rw [if_pos e, if_neg e'] at he
          have := h.lt j' (hlive j' hj' e')
          omega
      · by_cases e' : j' = k
        · rw [if_neg e, if_pos e'] at he
          have := h.lt j (hlive j hj e)
          omega
        · rw [if_neg e, if_neg e'] at he
          exact h.inj j j' (hlive j hj e) (hlive j' hj' e') he
  · rw [if_neg hn] at hy ⊢
    have hnf : needB (M.t.getD c zS) = false := by simpa using hn
    rw [ho, hnf, if_pos (by simp)]
    obtain ⟨h1, _, _⟩ := own_one hk hc hn
    have hl := hk.live (getD_memS hc) h1
    have e : rid R c = (f (hst (M.t.getD c zS)) : Int) := by unfold rid; rw [h.at_, cel_one h1]
    have hcon : conC M c = (M.d (hst (M.t.getD c zS))).getD [] := by unfold conC conS; rw [if_pos h1]
    rw [e, Int.toNat_natCast]
    generalize hst (M.t.getD c zS) = q at *
    refine ⟨f, h.mn, h.rm, h.c, h.s, fun j hj => ?_, fun j hj => ?_, h.inj⟩
    · show f j < (R.d.set (f q) y).length
      rw [List.length_set]
      exact h.lt j hj
    · replace hj : 0 < ng M j := hj
      show setF M.d q (some (spl ((M.d q).getD []) fr b)) j = some ((R.d.set (f q) y).getD (f j) [])
      unfold setF
      by_cases ej : j = q
      · subst ej
        rw [if_pos rfl, List.getD_eq_getElem?_getD, List.getElem?_set_self (h.lt j hj), hy, hcon]
        rfl
      · rw [if_neg ej, List.getD_eq_getElem?_getD, List.getElem?_set_ne (fun he => ej (h.inj _ _ hl hj he).symm), h.d j hj, List.getD_eq_getElem?_getD]
theorem Sim.snap_ (nm : By) : Sim (snapI M nm) { R with s := R.s ++ [(nm, R.c)] } f := by
  have hk' := moreL_keep (eachS M.t) M
  refine h.mono (snap_keep M nm).1 (snap_keep M nm).2.2.1 (fun j hj => ⟨?_, congrFun hk'.2.2.2.2 j⟩) rfl rfl ?_ ?_ rfl
  · have hj : 0 < ng (moreL M (eachS M.t)) j := hj
    rw [moreL_n _ _ (each_lt fun s hs h1 => hk.live hs h1), eachS_cnt hk.len] at hj
    have := cnt_le_t hk j
    omega
  · show R.c = ((moreL M (eachS M.t)).t.map _).map _
    rw [owns_cel, hk'.2.1]
    exact h.c
  · rw [(snap_keep M nm).2.1, List.map_append, h.s, h.c]
    rfl
theorem Sim.apply_ {k : Nat} (hlt : k < M.s.length) : Sim (applyI M k) { R with c := (R.s.getD k zRQ).2 } f := by
  have hp := getD_memQ hlt
  refine h.mono apply_keep.1 apply_keep.2.2.1 (fun j hj => ?_) rfl rfl ?_ (by rw [apply_keep.2.1]; exact h.s) rfl
  · have hj : 0 < ng (lessL (moreL M (eachS (M.s.getD k zQ).2)) (eachS M.t)) j := hj
    refine ⟨?_, apply_live hk hp hj⟩
    rw [apply_ng hk hp] at hj
    have := cnt_le_snap hk hp j
    omega
  · show (R.s.getD k zRQ).2 = ((M.s.getD k zQ).2.map _).map _
    rw [owns_cel, h.s]
    simp only [List.getD_eq_getElem?_getD, List.getElem?_map, List.getElem?_eq_getElem hlt]
    rfl
theorem Sim.drop_ {k : Nat} (hlt : k < M.s.length) : Sim (dropI M k) { R with s := R.s.eraseIdx k } f := by
  have k1 := lessL_keep (eachS (M.s.getD k zQ).2) M
  refine h.mono drop_keep.1 drop_keep.2.2.1 (fun j hj => ?_) rfl rfl ?_ ?_ rfl
  · have hj : 0 < ng (lessL M (eachS (M.s.getD k zQ).2)) j := hj
    refine ⟨?_, drop_live hk hlt hj⟩
    rw [drop_ng hk hlt] at hj
    omega
  · show R.c = ((lessL M (eachS (M.s.getD k zQ).2)).t.map _).map _
    rw [owns_cel, k1.2.1]
    exact h.c
  · rw [drop_keep.2.1, map_erase, h.s]
theorem Sim.resize_ (n : Nat) : Sim (resizeI M n) { R with c := R.c.take n ++ List.replicate (n - R.c.length) zRC } f := by
  refine h.mono (resize_keep n).1 (resize_keep n).2.2.1 (fun j hj => ?_) rfl rfl ?_ (by rw [(resize_keep n).2.1]; exact h.s) rfl
  · have hj : 0 < ng (lessL { M with t := cutT M.t n } (goneT M.t n)) j := hj
    refine ⟨?_, resize_live hk n hj⟩
    rw [resize_ng hk] at hj
    omega
  · show R.c.take n ++ _ = ((lessL { M with t := cutT M.t n } (goneT M.t n)).t.map _).map _
    rw [owns_cel, resize_t]
    unfold cutT
    rw [List.map_append, List.map_take, List.map_replicate, cel_zS, h.c, List.length_map]
end
theorem find_map {s : List (By × List Slt)} {g : By × List Slt → By × List RCel} (hg : ∀ p, (g p).1 = p.1) (nm : By) : rfindI (s.map g) nm = findI s nm := by
  unfold rfindI findI
  rw [List.findIdx?_map]
  congr 1
  funext p
  simp [hg]
end Go.Proofs.YtilhbjjjmdnjmaaGreat

namespace Go.Proofs.YtilhbjjjmdnjmaaGreat
open Go.RowKit

theorem cnt_iv (lo hi : Nat) : ∀ mn, (List.range mn).countP (fun k => decide (lo ≤ k) && decide (k < hi)) = min hi mn - lo
  | 0 => by simp
  | mn + 1 => by
    rw [List.range_succ, List.countP_append, cnt_iv lo hi mn]
    simp only [List.countP_cons, List.countP_nil, Nat.zero_add]
    by_cases h : lo ≤ mn ∧ mn < hi
    · simp only [h.1, h.2, decide_true, Bool.and_self, if_true]
      omega
    · have : (decide (lo ≤ mn) && decide (mn < hi)) = false := by
        rw [Bool.and_eq_false_iff, decide_eq_false_iff_not, decide_eq_false_iff_not]
        omega
      rw [this]
      simp only [Bool.false_eq_true, if_false]
      omega
theorem rins_eq (mn c a l : Nat) : rins mn c a l = min (a + l - c * mn) mn - (a - c * mn) := by
  rw [← cnt_iv]
  unfold rins
  refine List.countP_congr fun k _ => ?_
  simp only [Bool.and_eq_true, decide_eq_true_eq]
  omega
section
variable {mn a l : Nat} (hm : 0 < mn)
include hm
theorem rins_out {c : Nat} (hc : c < pcF (16 * mn) a ∨ pcF (16 * mn) a + pcN (16 * mn) a l ≤ c) : rins mn c a l = 0 := by
  rw [rins_eq]
  rcases hc with hc | hc
  · unfold pcF at hc
    rw [Nat.mul_div_mul_left _ _ (by omega : 0 < 16)] at hc
    have h1 := (Nat.le_div_iff_mul_le hm).1 (Nat.succ_le_of_lt hc)
    rw [Nat.succ_mul] at h1
    omega
  · have h1 := (pc_lt (z := 16 * mn) (a := a) (l := l) (k := c - pcF (16 * mn) a) (by omega))
    have h2 : pcC (16 * mn) a (c - pcF (16 * mn) a) = c := by unfold pcC; omega
    rw [h2] at h1
    have h3 : ¬ (0 < l ∧ c * (16 * mn) < 16 * (a + l)) := fun h => by have := h1.2 h; omega
    have h4 : c * (16 * mn) = 16 * (c * mn) := Nat.mul_left_comm _ _ _
    rw [h4] at h3
    omega
theorem rins_in {k : Nat} : 16 * rins mn (pcC (16 * mn) a k) a l = pcTo (16 * mn) a l k - pcFr (16 * mn) a k := by
  rw [rins_eq]
  unfold pcTo pcFr
  rw [Nat.mul_left_comm (pcC (16 * mn) a k) 16 mn]
  omega
omit hm in
theorem flat16 {α : Type} {g : Nat → List α} {d : α} : ∀ n, (∀ k, k < n → (g k).length = 16) → ((List.range n).flatMap g).length = 16 * n ∧ ∀ q r, q < n → r < 16 → ((List.range n).flatMap g).getD (16 * q + r) d = (g q).getD r d
  | 0, _ => ⟨rfl, fun q r hq => by omega⟩
  | n + 1, h => by
    obtain ⟨h1, h2⟩ := flat16 n fun k hk => h k (by omega)
    rw [List.range_succ, List.flatMap_append]
    refine ⟨?_, fun q r hq hr => ?_⟩
    · rw [List.length_append, h1]
      simp [h n (by omega)]
      omega
    · simp only [List.flatMap_cons, List.flatMap_nil, List.append_nil]
      by_cases e : q = n
      · subst e
        rw [List.getD_eq_getElem?_getD, List.getElem?_append_right (by omega), h1, Nat.add_sub_cancel_left, List.getD_eq_getElem?_getD]
      · have := h2 q r (by omega) hr
        rw [List.getD_eq_getElem?_getD, List.getElem?_append_left (by omega), ← List.getD_eq_getElem?_getD, this]
theorem laid_eq {k : Nat} {x b : By} (hk : k < pcN (16 * mn) a l) (hx : x.length = 16 * mn) (hb : b.length = 16 * l) :
    rlaid mn x (pcC (16 * mn) a k) a b = spl x (pcFr (16 * mn) a k) ((b.drop (pcAt (16 * mn) a k)).take (pcTo (16 * mn) a l k - pcFr (16 * mn) a k)) := by
  obtain ⟨f1, f2, f3, f4, f5, _⟩ := pc_facts (by omega : 0 < 16 * mn) hk
  have hbl : ((b.drop (pcAt (16 * mn) a k)).take (pcTo (16 * mn) a l k - pcFr (16 * mn) a k)).length = pcTo (16 * mn) a l k - pcFr (16 * mn) a k := by
    rw [List.length_take, List.length_drop]
    omega
  have hg : ∀ j, j < mn → (if a ≤ pcC (16 * mn) a k * mn + j ∧ 16 * (pcC (16 * mn) a k * mn + j - a) + 16 ≤ b.length then (b.drop (16 * (pcC (16 * mn) a k * mn + j - a))).take 16 else (x.drop (16 * j)).take 16).length = 16 := fun j hj => by
    split
    · rw [List.length_take, List.length_drop]; omega
    · rw [List.length_take, List.length_drop]; omega
  obtain ⟨hl, hat⟩ := flat16 (d := (0 : UInt8)) mn hg
  have hsl : (spl x (pcFr (16 * mn) a k) ((b.drop (pcAt (16 * mn) a k)).take (pcTo (16 * mn) a l k - pcFr (16 * mn) a k))).length = 16 * mn := by
    rw [spl_len (by rw [hbl]; omega), hx]
  unfold rlaid
  refine List.ext_getElem (hl.trans hsl.symm) fun i h1 h2 => ?_
  rw [hl] at h1
  have e1 := hat (i / 16) (i % 16) (by omega) (Nat.mod_lt _ (by omega))
  rw [Nat.div_add_mod] at e1
  have e2 := spl_getD (x := x) (f := pcFr (16 * mn) a k) (b := (b.drop (pcAt (16 * mn) a k)).take (pcTo (16 * mn) a l k - pcFr (16 * mn) a k)) (by rw [hbl]; omega) i
  rw [hbl] at e2
  rw [List.getD_eq_getElem?_getD, List.getElem?_eq_getElem (by rw [hl]; exact h1)] at e1
  rw [List.getD_eq_getElem?_getD, List.getElem?_eq_getElem h2] at e2
  simp only [Option.getD_some] at e1 e2
  rw [e1, e2]
  have hz : pcC (16 * mn) a k * (16 * mn) = 16 * (pcC (16 * mn) a k * mn) := Nat.mul_left_comm _ _ _
  have hto : pcTo (16 * mn) a l k = min (16 * (a + l) - pcC (16 * mn) a k * (16 * mn)) (16 * mn) := rfl
  have hfr : pcFr (16 * mn) a k = 16 * a - pcC (16 * mn) a k * (16 * mn) := rfl
  have hatd : pcAt (16 * mn) a k = pcC (16 * mn) a k * (16 * mn) + pcFr (16 * mn) a k - 16 * a := rfl
  rw [hz] at hto hfr hatd f3 f5
  generalize pcC (16 * mn) a k * mn = C at *
  generalize pcTo (16 * mn) a l k = T at *
  generalize pcFr (16 * mn) a k = F at *
  generalize pcAt (16 * mn) a k = P at *
  have hq := Nat.div_add_mod i 16
  have hr := Nat.mod_lt i (by omega : 0 < 16)
  have hq' : i / 16 < mn := by omega
  by_cases hc : a ≤ C + i / 16 ∧ 16 * (C + i / 16 - a) + 16 ≤ b.length
  · rw [if_pos hc, if_pos (by omega)]
    simp only [List.getD_eq_getElem?_getD, List.getElem?_take, List.getElem?_drop]
    rw [if_pos hr, if_pos (by omega)]
    congr 2
    omega
  · rw [if_neg hc, if_neg (by omega)]
    simp only [List.getD_eq_getElem?_getD, List.getElem?_take, List.getElem?_drop]
    rw [if_pos hr]
    congr 2
end
/-- how many pieces lie in the cells so far -/
def jn (z a l c : Nat) : Nat := min (c - pcF z a) (pcN z a l)
theorem jn_all {M : Img} {a l : Nat} (hal : a + l ≤ M.t.length * 2 ^ M.B) : jn M.z a l M.t.length = pcN M.z a l := by
  unfold jn
  by_cases h0 : pcN M.z a l = 0
  · omega
  · have := pc_in (z_pos M) rfl hal (by omega : pcN M.z a l - 1 < pcN M.z a l)
    unfold pcC at this
    omega
theorem jn_cases (z a l c : Nat) : ((c < pcF z a ∨ pcF z a + pcN z a l ≤ c) ∧ jn z a l (c + 1) = jn z a l c) ∨ (jn z a l c < pcN z a l ∧ pcC z a (jn z a l c) = c ∧ jn z a l (c + 1) = jn z a l c + 1) := by
  unfold jn pcC
  omega
section
variable {M : Img} {R : RIm} {f : Nat → Nat} {zero : Bool} {a l : Nat} {b : By} {bel : List By}
theorem Sim.need_ (h : Sim M R f) (hk : OkI M) : ∀ c, rneedN zero R a l c = needN zero M a l (jn M.z a l c)
  | 0 => by
    have : jn M.z a l 0 = 0 := by unfold jn; omega
    rw [this]
    rfl
  | c + 1 => by
    have ih := Sim.need_ h hk c
    have hm := h.mn_pos
    unfold rneedN at *
    rw [List.range_succ, List.countP_append, ih]
    rw [h.z]
    rcases jn_cases (16 * R.mn) a l c with ⟨hc, hj⟩ | ⟨hj1, hj2, hj3⟩
    · have h0 := rins_out hm hc
      rw [hj]
      simp [rneedK, h0]
    · rw [hj3, ← h.z, needN_succ, h.z, hj2]
      congr 1
      simp only [List.countP_cons, List.countP_nil, Nat.zero_add]
      have e16 := rins_in hm (a := a) (l := l) (k := jn (16 * R.mn) a l c)
      rw [hj2] at e16
      obtain ⟨f1, f2, _⟩ := pc_facts (by omega : 0 < 16 * R.mn) hj1
      have : rneedK zero R a l c = needK zero M c (pcFr (16 * R.mn) a (jn (16 * R.mn) a l c)) (pcTo (16 * R.mn) a l (jn (16 * R.mn) a l c)) := by
        unfold rneedK needK
        rw [h.own_ hk, h.rk_, ← e16, h.z, Bool.not_not]
        have e1 : decide (0 < rins R.mn c a l) = true := decide_eq_true (by omega)
        have e2 : decide (rins R.mn c a l = R.mn) = decide (16 * rins R.mn c a l = 16 * R.mn) := by
          rw [Bool.eq_iff_iff, decide_eq_true_iff, decide_eq_true_iff]
          omega
        rw [e1, e2, Bool.true_and]
      rw [this]
theorem wr_sim (h : Sim M R f) (hk : OkI M) (hal : a + l ≤ M.t.length * 2 ^ M.B) (hb : b.length = 16 * l) (hneed : needN zero M a l (pcN M.z a l) ≤ freeN M.n) :
    ∀ c, c ≤ M.t.length → ∃ f', Sim (wrN zero M a l b (belF bel) (jn M.z a l c)) (rwN zero R a l b bel c) f'
  | 0, _ => by
    have : jn M.z a l 0 = 0 := by unfold jn; omega
    rw [this]
    exact ⟨f, h⟩
  | c + 1, hc => by
    obtain ⟨f', ih⟩ := wr_sim h hk hal hb hneed c (by omega)
    have hm := h.mn_pos
    have hI := wrN_inv (zero := zero) (x := belF bel) hk hal hb (belF_len bel) hneed (jn M.z a l c) (by unfold jn; omega)
    have hmn : (rwN zero R a l b bel c).mn = R.mn := by rw [ih.mn, hI.B, ← h.mn]
    have hzM := h.z
    show ∃ f', Sim _ (rwK zero (rwN zero R a l b bel c) a l b bel c) f'
    rcases jn_cases M.z a l c with ⟨hc', hj⟩ | ⟨hj1, hj2, hj3⟩
    · rw [hj]
      refine ⟨f', ?_⟩
      unfold rwK
      rw [hzM] at hc'
      rw [hmn, rins_out hm hc', if_pos (.inl rfl)]
      exact ih
    · rw [hj3]
      have e16 := rins_in hm (a := a) (l := l) (k := jn M.z a l c)
      rw [← hzM, hj2] at e16
      obtain ⟨f1, f2, _⟩ := pc_facts (z_pos M) hj1
      have hin := hI.inn hal hj1
      have hroom := hI.room hneed hj1
      have hs := pc_slice hb hj1
      have hzR := hI.z
      have hlen : (cluB (wrN zero M a l b (belF bel) (jn M.z a l c)) c bel).length = 16 * R.mn := by rw [cluB_len hI.ok.toOkJ, hzR, hzM]
      have hlaid := laid_eq hm (k := jn M.z a l c) (x := cluB (wrN zero M a l b (belF bel) (jn M.z a l c)) c bel) (b := b) (by rw [← hzM]; exact hj1) hlen hb
      rw [← hzM, hj2] at hlaid
      show ∃ f', Sim (wrK zero _ _ _ _ _ _) _ f'
      rw [hj2] at hin hroom ⊢
      unfold rwK wrK
      rw [hmn, ih.rk_, ih.clu hI.ok, hzR, hlaid]
      generalize wrN zero M a l b (belF bel) (jn M.z a l c) = M' at *
      generalize rwN zero R a l b bel c = R' at *
      by_cases hw : zero = true ∧ pcTo M.z a l (jn M.z a l c) - pcFr M.z a (jn M.z a l c) = M.z
      · rw [if_pos hw, if_neg (by omega), if_pos ⟨hw.1, by omega⟩]
        exact ⟨f', ih.set_ hI.ok hin (s := (2, 0, false)) (by simp)⟩
      · rw [if_neg hw]
        by_cases h2 : zero = true ∧ (M'.t.getD c zS).1 = 2
        · rw [if_pos h2, if_pos (.inr ⟨h2.1, by have : ¬ rins R.mn c a l = R.mn := fun e => hw ⟨h2.1, by omega⟩
                                                omega, h2.2⟩)]
          exact ⟨f', ih⟩
        · rw [if_neg h2, if_neg (by
            rintro (h3 | h3)
            · omega
            · exact h2 ⟨h3.1, h3.2.2⟩), if_neg (fun h3 => hw ⟨h3.1, by omega⟩)]
          refine ih.put_ hI.ok hin (x := belF bel M' c) (cluB_len hI.ok.toOkJ c bel) (need_free hroom (by rw [hzR]; exact hw) h2) ?_
          congr 1
          by_cases hn : needB (M'.t.getD c zS) = true
          · rw [if_pos hn]; rfl
          · rw [if_neg hn]
            obtain ⟨h1, _, _⟩ := own_one hI.ok hin hn
            unfold cluB conC conS
            rw [if_pos h1, if_pos h1]
theorem dis_sim (h : Sim M R f) (hk : OkI M) (hal : a + l ≤ M.t.length * 2 ^ M.B) : ∀ c, c ≤ M.t.length → Sim (disN M a l (jn M.z a l c)) (rdN R a l c) f
  | 0, _ => by
    have : jn M.z a l 0 = 0 := by unfold jn; omega
    rw [this]
    exact h
  | c + 1, hc => by
    have ih := dis_sim h hk hal c (by omega)
    have hm := h.mn_pos
    have hI := dis_inv hk hal (jn M.z a l c) (by unfold jn; omega)
    have hzM := h.z
    show Sim _ (if rins R.mn c a l = R.mn then rset (rdN R a l c) c (0, 0) else rdN R a l c) f
    rcases jn_cases M.z a l c with ⟨hc', hj⟩ | ⟨hj1, hj2, hj3⟩
    · rw [hj]
      rw [hzM] at hc'
      rw [rins_out hm hc', if_neg (by omega)]
      exact ih
    · rw [hj3]
      have e16 := rins_in hm (a := a) (l := l) (k := jn M.z a l c)
      rw [← hzM, hj2] at e16
      show Sim (if _ then _ else _) _ f
      rw [hj2]
      by_cases hw : pcTo M.z a l (jn M.z a l c) - pcFr M.z a (jn M.z a l c) = M.z
      · rw [if_pos hw, if_pos (by omega)]
        exact ih.set_ hI.ok (by rw [hI.t]; omega) (s := zS) (by simp [zS])
      · rw [if_neg hw, if_neg (by omega)]
        exact ih
theorem read_sim (h : Sim M R f) (hk : OkI M) : ∀ l, rread R a l = readI M a l
  | 0 => rfl
  | l + 1 => by
    have ih := read_sim h hk l
    have hm := h.mn_pos
    unfold rread readI at *
    rw [List.range_succ, List.flatMap_append, ih, show 16 * (l + 1) = 16 * l + 16 from rfl, ← seg_app]
    congr 1
    simp only [List.flatMap_cons, List.flatMap_nil, List.append_nil]
    have hq := Nat.mod_lt (a + l) hm
    have hd := Nat.div_add_mod (a + l) R.mn
    have e := con_seg hk.toOkJ (c := (a + l) / R.mn) (f := 16 * ((a + l) % R.mn)) (t := 16 * ((a + l) % R.mn) + 16) (by omega) (by rw [h.z]; omega)
    rw [Nat.add_sub_cancel_left, h.z] at e
    rw [h.clu hk, cluB_nil, e]
    congr 1
    have : (a + l) / R.mn * (16 * R.mn) = 16 * (R.mn * ((a + l) / R.mn)) := by rw [Nat.mul_left_comm, Nat.mul_comm ((a + l) / R.mn)]
    omega
theorem inside_sim (h : Sim M R f) (x l : Int) : rinside R x l = insideI M x l := by
  have e : R.mn * R.c.length = M.t.length * 2 ^ M.B := by rw [h.mn, h.len, Nat.mul_comm]
  unfold rinside insideI allI
  rw [e]
  generalize M.t.length * 2 ^ M.B = A
  by_cases h1 : l < 0
  · rw [if_pos h1, if_pos h1]
  · rw [if_neg h1, if_neg h1]
    by_cases h2 : x < 0 ∨ l > (A : Int) ∨ x > (A : Int) - l
    · rw [if_pos h2, if_pos (by omega)]
    · rw [if_neg h2, if_neg (by omega)]
end
/-- the same code, and the same image behind it -/
def Same2 (x : Int × Img) (y : Int × RIm) : Prop := y.1 = x.1 ∧ ∃ f, Sim x.2 y.2 f
section
variable {M : Img} {R : RIm} {f : Nat → Nat} (h : Sim M R f) (hk : OkI M)
include h hk
theorem write_sim (x : Int) (b : By) (bel : List By) : Same2 (writeE M x b bel) (rwriteE false R x b bel) := by
  unfold writeE rwriteE
  by_cases h16 : b.length % 16 ≠ 0
  · rw [if_pos h16, if_pos h16]
    exact ⟨rfl, f, h⟩
  · rw [if_neg h16, if_neg h16, inside_sim h]
    by_cases hi : insideI M x (b.length / 16 : Nat) ≠ 0
    · rw [if_pos hi, if_pos hi]
      exact ⟨rfl, f, h⟩
    · rw [if_neg hi, if_neg hi]
      obtain ⟨a, n, rfl, hn, hal⟩ := inside_ok (Classical.not_not.1 hi)
      have hn : b.length / 16 = n := by omega
      rw [Int.toNat_natCast, hn, h.free hk, h.len, h.need_ hk, jn_all hal]
      by_cases hf : freeN M.n < needN false M a n (pcN M.z a n)
      · rw [if_pos hf, if_pos (by omega)]
        exact ⟨rfl, f, h⟩
      · rw [if_neg hf, if_neg (by omega)]
        have := wr_sim (zero := false) (bel := bel) h hk hal (by omega : b.length = 16 * n) (by omega) M.t.length (Nat.le_refl _)
        rw [jn_all hal] at this
        exact ⟨rfl, this⟩
theorem zero_sim (x l : Int) (bel : List By) : Same2 (zeroE M x l bel) (rzeroE R x l bel) := by
  unfold zeroE rzeroE
  rw [inside_sim h]
  by_cases hi : insideI M x l ≠ 0
  · rw [if_pos hi, if_pos hi]
    exact ⟨rfl, f, h⟩
  · rw [if_neg hi, if_neg hi]
    have hi0 := Classical.not_not.1 hi
    obtain ⟨a, n, rfl, rfl, hal⟩ := inside_ok hi0
    have hzl : (zBy (16 * n)).length = 16 * n := by simp [zBy]
    unfold rwriteE
    rw [Int.toNat_natCast, Int.toNat_natCast, hzl, if_neg (by omega : ¬ (16 * n % 16 ≠ 0)), Nat.mul_div_cancel_left _ (by omega : 0 < 16), inside_sim h, if_neg (fun hh => hh hi0 : ¬ (insideI M (a : Int) (n : Int) ≠ 0)), h.free hk, h.len, h.need_ hk, jn_all hal]
    by_cases hf : freeN M.n < needN true M a n (pcN M.z a n)
    · rw [if_pos hf, if_pos (by omega)]
      exact ⟨rfl, f, h⟩
    · rw [if_neg hf, if_neg (by omega)]
      have := wr_sim (zero := true) (bel := bel) h hk hal hzl (by omega) M.t.length (Nat.le_refl _)
      rw [jn_all hal] at this
      exact ⟨rfl, this⟩
theorem disc_sim (x l : Int) : Same2 (discardE M x l) (rdiscE R x l) := by
  unfold discardE rdiscE
  rw [inside_sim h]
  by_cases hi : insideI M x l ≠ 0
  · rw [if_pos hi, if_pos hi]
    exact ⟨rfl, f, h⟩
  · rw [if_neg hi, if_neg hi]
    obtain ⟨a, n, rfl, rfl, hal⟩ := inside_ok (Classical.not_not.1 hi)
    have := dis_sim h hk hal M.t.length (Nat.le_refl _)
    rw [jn_all hal] at this
    rw [Int.toNat_natCast, Int.toNat_natCast, h.len]
    exact ⟨rfl, f, this⟩
theorem size_sim (n : Int) : Same2 (resizeE M n) (rsizeE R n) := by
  unfold resizeE rsizeE
  by_cases hn : 0 ≤ n ∧ n ≤ 256
  · rw [if_pos hn, if_pos hn]
    exact ⟨rfl, f, h.resize_ hk _⟩
  · rw [if_neg hn, if_neg hn]
    exact ⟨rfl, f, h⟩
theorem snap_sim (nm : By) : Same2 (snapE M nm) (rsnapE R 5 nm) := by
  have hf : rfindI R.s nm = findI M.s nm := by rw [h.s]; exact find_map (fun _ => rfl) nm
  unfold snapE rsnapE
  rw [if_pos rfl, hf, h.slen]
  split
  · exact ⟨rfl, f, h⟩
  · split
    · exact ⟨rfl, f, h⟩
    · exact ⟨rfl, f, h.snap_ hk nm⟩
theorem apply_sim (nm : By) : Same2 (applyE M nm) (rsnapE R 6 nm) := by
  have hf : rfindI R.s nm = findI M.s nm := by rw [h.s]; exact find_map (fun _ => rfl) nm
  unfold applyE rsnapE
  rw [if_neg (by decide), hf]
  cases e : findI M.s nm with
  | none => exact ⟨rfl, f, h⟩
  | some k => exact ⟨rfl, f, h.apply_ hk (findI_some e).1⟩
theorem drop_sim (nm : By) : Same2 (dropR M nm) (rsnapE R 7 nm) := by
  have hf : rfindI R.s nm = findI M.s nm := by rw [h.s]; exact find_map (fun _ => rfl) nm
  unfold dropR rsnapE
  rw [if_neg (by decide), hf]
  cases e : findI M.s nm with
  | none => exact ⟨rfl, f, h⟩
  | some k => exact ⟨rfl, f, h.drop_ hk (findI_some e).1⟩
theorem op_sim (o : OpI) (bel : List By) : Same2 (opE M o bel) (rdoE R o bel) := by
  unfold opE rdoE
  by_cases k0 : o.k = 0
  · rw [if_pos k0, if_pos k0, inside_sim h]
    exact ⟨rfl, f, h⟩
  rw [if_neg k0, if_neg k0]
  by_cases k1 : o.k = 1
  · rw [if_pos k1, if_pos k1]
    exact write_sim h hk _ _ _
  rw [if_neg k1, if_neg k1]
  by_cases k2 : o.k = 2
  · rw [if_pos k2, if_pos k2]
    exact zero_sim h hk _ _ _
  rw [if_neg k2, if_neg k2]
  by_cases k3 : o.k = 3
  · rw [if_pos k3, if_pos k3]
    exact disc_sim h hk _ _
  rw [if_neg k3, if_neg k3]
  by_cases k4 : o.k = 4
  · rw [if_pos k4, if_pos k4]
    exact size_sim h hk _
  rw [if_neg k4, if_neg k4]
  by_cases k5 : o.k = 5
  · rw [if_pos k5, if_pos (.inl k5), k5]
    exact snap_sim h hk _
  rw [if_neg k5]
  by_cases k6 : o.k = 6
  · rw [if_pos k6, if_pos (.inr (.inl k6)), k6]
    exact apply_sim h hk _
  rw [if_neg k6]
  by_cases k7 : o.k = 7
  · rw [if_pos k7, if_pos (.inr (.inr k7)), k7]
    exact drop_sim h hk _
  rw [if_neg k7, if_neg (by omega)]
  exact ⟨rfl, f, h⟩
theorem opR_sim (o : OpI) : rdoR R o = opR M o := by
  unfold rdoR opR
  rw [inside_sim h, read_sim h hk]
end
def newRI (B n r : Nat) : RIm := { mn := 2 ^ B, rm := r, c := List.replicate n zRC, s := [], d := [] }
theorem new_sim (B n r : Nat) : Sim (newI B n r) (newRI B n r) id := by
  have h0 : ∀ k, ¬ 0 < ng (newI B n r) k := fun k hk => by
    unfold ng newI at hk
    simp only [List.getD_eq_getElem?_getD, List.getElem?_replicate] at hk
    split at hk <;> simp at hk
  refine ⟨rfl, (List.length_replicate).symm, ?_, rfl, fun k hk => absurd hk (h0 k), fun k hk => absurd hk (h0 k), fun k _ hk => absurd hk (h0 k)⟩
  show List.replicate n zRC = (List.replicate n zS).map _
  rw [List.map_replicate, cel_zS]
end Go.Proofs.YtilhbjjjmdnjmaaGreat
