/-
  What an image reads as; what is written, made 0, discarded, piece by piece: in plain Lean.
-/
import Derived.Test.YtilhbjjjmdnjmaaGreatM14
namespace Go.Proofs.YtilhbjjjmdnjmaaGreat
open Go.RowKit

def conX (M : Img) (x : Nat) : UInt8 := (conC M (x / M.z)).getD (x % M.z) 0
/-- n bytes from lo on -/
def seg (M : Img) (lo n : Nat) : By := (List.range n).map fun i => conX M (lo + i)
def readI (M : Img) (a l : Nat) : By := seg M (16 * a) (16 * l)
theorem seg_len (M : Img) (lo n : Nat) : (seg M lo n).length = n := by simp [seg]
theorem seg_app (M : Img) (lo n m : Nat) : seg M lo n ++ seg M (lo + n) m = seg M lo (n + m) := by
  unfold seg
  rw [List.range_add, List.map_append, List.map_map]
  congr 1
  refine List.map_congr_left fun i _ => ?_
  simp only [Function.comp, Nat.add_assoc]
theorem seg_getD (M : Img) (lo n i : Nat) (hi : i < n) : (seg M lo n).getD i 0 = conX M (lo + i) := by
  unfold seg
  rw [List.getD_eq_getElem?_getD, List.getElem?_map, List.getElem?_range hi]
  rfl
theorem z_pos (M : Img) : 0 < M.z := by unfold Img.z; have := Nat.two_pow_pos M.B; omega
theorem conX_at {M : Img} {c r : Nat} (hr : r < M.z) : conX M (c * M.z + r) = (conC M c).getD r 0 := by
  unfold conX
  have h1 : (c * M.z + r) / M.z = c := by
    rw [Nat.add_comm, Nat.add_mul_div_right _ _ (z_pos M), Nat.div_eq_of_lt hr, Nat.zero_add]
  have h2 : (c * M.z + r) % M.z = r := by
    rw [Nat.add_comm, Nat.add_mul_mod_self_right, Nat.mod_eq_of_lt hr]
  rw [h1, h2]
theorem conX_out {M : Img} {x : Nat} (hx : M.t.length * M.z ≤ x) : conX M x = 0 := by
  unfold conX
  have : M.t.length ≤ x / M.z := (Nat.le_div_iff_mul_le (z_pos M)).2 hx
  unfold conC
  rw [getD_outS (by omega)]
  unfold conS
  rw [if_neg (by simp [zS])]
  simp [zBy, List.getD_eq_getElem?_getD, List.getElem?_replicate]
  split <;> rfl
theorem con_seg {M : Img} (h : OkJ M) {c f t : Nat} (hft : f ≤ t) (ht : t ≤ M.z) : ((conC M c).drop f).take (t - f) = seg M (c * M.z + f) (t - f) := by
  have hl := h.conc c
  refine List.ext_getElem (by simp [seg]; omega) fun i h1 h2 => ?_
  have hi : i < t - f := by simpa [seg] using h2
  have e : (seg M (c * M.z + f) (t - f))[i] = (seg M (c * M.z + f) (t - f)).getD i 0 := by rw [List.getD_eq_getElem?_getD, List.getElem?_eq_getElem h2]; rfl
  rw [List.getElem_take, List.getElem_drop, e, seg_getD _ _ _ _ hi, Nat.add_assoc, conX_at (by omega), List.getD_eq_getElem?_getD, List.getElem?_eq_getElem (by omega)]
  rfl
/-- the bytes before a piece -/
def pcE (z a l k : Nat) : Nat := min (pcC z a k * z) (16 * (a + l)) - 16 * a
section
variable {z a l k : Nat} (hz : 0 < z)
theorem pcE_zero : pcE z a l 0 = 0 := by
  unfold pcE pcC pcF
  have h3 : 16 * a / z * z ≤ 16 * a := Nat.div_mul_le_self _ _
  rw [Nat.add_zero]
  omega
include hz
theorem pcE_last : pcE z a l (pcN z a l) = 16 * l := by
  unfold pcE
  have h := pc_lt (a := a) (l := l) (k := pcN z a l) hz
  by_cases hl : l = 0
  · subst hl; omega
  · have : ¬ pcC z a (pcN z a l) * z < 16 * (a + l) := fun h' => Nat.lt_irrefl _ (h.2 ⟨by omega, h'⟩)
    omega
theorem pcE_at (hk : k < pcN z a l) : pcC z a k * z + pcFr z a k = 16 * a + pcE z a l k ∧ pcAt z a k = pcE z a l k ∧ pcC z a k * z + pcTo z a l k = 16 * a + pcE z a l (k + 1) ∧ pcE z a l (k + 1) = pcE z a l k + (pcTo z a l k - pcFr z a k) ∧ pcE z a l (k + 1) ≤ 16 * l := by
  have h1 := pc_facts hz hk
  have h2 := ((pc_lt hz).1 hk).2
  have h7 : pcC z a (k + 1) * z = pcC z a k * z + z := by unfold pcC; rw [← Nat.add_assoc, Nat.add_mul (pcF z a + k) 1, Nat.one_mul]
  have hfr : pcFr z a k = 16 * a - pcC z a k * z := rfl
  have hto : pcTo z a l k = min (16 * (a + l) - pcC z a k * z) z := rfl
  have hat : pcAt z a k = pcC z a k * z + pcFr z a k - 16 * a := rfl
  unfold pcE
  rw [h7]
  generalize pcC z a k * z = m at *
  omega
theorem pc_in {B n : Nat} (hz2 : z = 16 * 2 ^ B) (hal : a + l ≤ n * 2 ^ B) (hk : k < pcN z a l) : pcC z a k < n := by
  have h2 := ((pc_lt hz).1 hk).2
  have h3 : 16 * (a + l) ≤ n * z := by
    rw [hz2, Nat.mul_left_comm]
    exact Nat.mul_le_mul_left 16 hal
  exact Nat.lt_of_mul_lt_mul_right (a := z) (by omega)
end
theorem seg_succ {M : Img} (h : OkJ M) {a l k : Nat} (hk : k < pcN M.z a l) : seg M (16 * a) (pcE M.z a l k) ++ ((conC M (pcC M.z a k)).drop (pcFr M.z a k)).take (pcTo M.z a l k - pcFr M.z a k) = seg M (16 * a) (pcE M.z a l (k + 1)) := by
  have h1 := pcE_at (z_pos M) hk
  have h2 := pc_facts (z_pos M) hk
  rw [con_seg h (by omega) h2.2.1, h1.1, seg_app, ← h1.2.2.2.1]
/-! ### writes, made 0 -/
def wrK (zero : Bool) (M : Img) (c f t : Nat) (b : By) (bel : Nat → By) : Img :=
  if zero = true ∧ t - f = M.z then setI M c (2, 0, false) else if zero = true ∧ (M.t.getD c zS).1 = 2 then M else putI M c f b (bel c)
def needK (zero : Bool) (M : Img) (c f t : Nat) : Bool := !(zero && (decide (t - f = M.z) || decide ((M.t.getD c zS).1 = 2))) && needB (M.t.getD c zS)
section
variable {zero : Bool} {M : Img} (h : OkI M) {c f t : Nat} {b : By} {x : Nat → By} (hc : c < M.t.length) (hb : f + b.length = t) (ht : t ≤ M.z) (hx : (x c).length = M.z) (hfree : needK zero M c f t = true → 0 < freeN M.n)
theorem need_free (hn : needK zero M c f t = true → 0 < freeN M.n) (h1 : ¬ (zero = true ∧ t - f = M.z)) (h2 : ¬ (zero = true ∧ (M.t.getD c zS).1 = 2)) : needB (M.t.getD c zS) = true → 0 < freeN M.n := fun h3 => hn (by
  unfold needK
  rw [h3, Bool.and_true]
  cases zero with
  | false => rfl
  | true => simp only [true_and] at h1 h2; rw [decide_eq_false h1, decide_eq_false h2]; rfl)
include h hc hb ht hx hfree in
theorem wr_ok : OkI (wrK zero M c f t b x) := by
  unfold wrK
  split
  · exact set_ok h hc (by simp [rightS]) (by simp)
  · split
    · exact h
    · rename_i h1 h2
      exact put_ok h hc hx (by omega) (need_free hfree h1 h2)
theorem wr_keep : (wrK zero M c f t b x).B = M.B ∧ (wrK zero M c f t b x).s = M.s ∧ (wrK zero M c f t b x).n.length = M.n.length ∧ (wrK zero M c f t b x).t.length = M.t.length ∧ ∀ c', c' ≠ c → (wrK zero M c f t b x).t.getD c' zS = M.t.getD c' zS := by
  have hg : ∀ (s : Slt) c', c' ≠ c → (M.t.set c s).getD c' zS = M.t.getD c' zS := fun s c' hne => by
    by_cases hc : c < M.t.length
    · rw [getD_setS hc, if_neg hne]
    · rw [List.set_eq_of_length_le (by omega)]
  unfold wrK
  split
  · have := set_len (M := M) (c := c) (s := (2, 0, false))
    exact ⟨this.2.1, this.2.2.1, this.2.2.2.1, this.1, fun c' hne => by rw [this.2.2.2.2]; exact hg _ c' hne⟩
  · split
    · exact ⟨rfl, rfl, rfl, rfl, fun _ _ => rfl⟩
    · have := put_keep (M := M) (c := c) (f := f) (b := b) (x := x c)
      refine ⟨this.1, this.2.1, this.2.2.1, ?_, fun c' hne => ?_⟩
      · rw [this.2.2.2]; split <;> simp
      · rw [this.2.2.2]; split
        · exact hg _ c' hne
        · rfl
include h hc hfree in
theorem wr_free : freeN M.n ≤ freeN (wrK zero M c f t b x).n + (if needK zero M c f t = true then 1 else 0) := by
  unfold wrK
  split
  · have := set_free h.toOkJ hc (s := (2, 0, false)); omega
  · split
    · omega
    · rename_i h1 h2
      have := put_free h hc (f := f) (b := b) (x := x c) (need_free hfree h1 h2)
      have e : needK zero M c f t = needB (M.t.getD c zS) := by
        unfold needK
        cases zero with
        | false => simp
        | true => simp only [true_and] at h1 h2; rw [decide_eq_false h1, decide_eq_false h2]; simp
      rw [e]
      exact this
include h hc hx hfree in
theorem wr_snap {p : By × List Slt} (hp : p ∈ M.s) {y : Slt} (hy : y ∈ p.2) : conS (wrK zero M c f t b x) y = conS M y := by
  unfold wrK
  split
  · exact set_snap h hc (by simp [rightS]) (by simp) hp hy
  · split
    · rfl
    · rename_i h1 h2
      exact put_snap h hc hx (need_free hfree h1 h2) hp hy
theorem spl_getD {x : By} {f : Nat} {b : By} (hl : f + b.length ≤ x.length) (r : Nat) : (spl x f b).getD r 0 = if f ≤ r ∧ r < f + b.length then b.getD (r - f) 0 else x.getD r 0 := by
  unfold spl
  simp only [List.getD_eq_getElem?_getD, List.getElem?_append, List.getElem?_drop, List.length_append, List.length_take]
  by_cases h1 : r < f
  · rw [if_pos (by omega), if_pos (by omega), if_neg (by omega), List.getElem?_take, if_pos h1]
  · by_cases h2 : r < f + b.length
    · rw [if_pos (by omega), if_neg (by omega), if_pos ⟨by omega, h2⟩]
      congr 2
      omega
    · rw [if_neg (by omega), if_neg (by omega)]
      congr 2
      omega
include h hc hb ht hx hfree in
/-- with what is told of Holes being what is read, a piece has its bytes, all else is as it was -/
theorem wr_conX (hx0 : x c = conC M c) (hz : zero = true → b = zBy b.length) (y : Nat) : conX (wrK zero M c f t b x) y = if c * M.z + f ≤ y ∧ y < c * M.z + t then b.getD (y - (c * M.z + f)) 0 else conX M y := by
  have hzz : (wrK zero M c f t b x).z = M.z := by unfold Img.z; rw [wr_keep.1]
  have hzp := z_pos M
  obtain ⟨q, r, hq, hr⟩ : ∃ q r, y = q * M.z + r ∧ r < M.z := ⟨y / M.z, y % M.z, by rw [Nat.mul_comm]; exact (Nat.div_add_mod y M.z).symm, Nat.mod_lt _ hzp⟩
  subst hq
  rw [conX_at hr]
  have hcx : conX (wrK zero M c f t b x) (q * M.z + r) = (conC (wrK zero M c f t b x) q).getD r 0 := by
    have := conX_at (M := wrK zero M c f t b x) (c := q) (r := r) (by rw [hzz]; exact hr)
    rwa [hzz] at this
  rw [hcx]
  have hin : (c * M.z + f ≤ q * M.z + r ∧ q * M.z + r < c * M.z + t) ↔ q = c ∧ f ≤ r ∧ r < t := by
    constructor
    · rintro ⟨h1, h2⟩
      have e : q = c := by
        rcases Nat.lt_trichotomy q c with h3 | h3 | h3
        · have : (q + 1) * M.z ≤ c * M.z := Nat.mul_le_mul_right _ h3
          rw [Nat.add_mul] at this; omega
        · exact h3
        · have : (c + 1) * M.z ≤ q * M.z := Nat.mul_le_mul_right _ h3
          rw [Nat.add_mul] at this; omega
      subst e
      exact ⟨rfl, by omega, by omega⟩
    · rintro ⟨rfl, h1, h2⟩
      exact ⟨by omega, by omega⟩
  have hbz : zero = true → ∀ i, b.getD i 0 = 0 := fun e i => by
    rw [hz e]
    simp [zBy, List.getD_eq_getElem?_getD, List.getElem?_replicate]
    split <;> rfl
  have zz : ∀ i, (zBy M.z).getD i 0 = 0 := fun i => by
    simp [zBy, List.getD_eq_getElem?_getD, List.getElem?_replicate]
    split <;> rfl
  unfold wrK
  by_cases h1 : zero = true ∧ t - f = M.z
  · rw [if_pos h1, set_con h hc (by simp [rightS]) (by simp)]
    by_cases e : q = c
    · subst e
      rw [if_pos rfl, if_pos (hin.2 ⟨rfl, by omega, by omega⟩), hbz h1.1]
      exact zz r
    · rw [if_neg e, if_neg (fun hh => e (hin.1 hh).1)]
  · rw [if_neg h1]
    by_cases h2 : zero = true ∧ (M.t.getD c zS).1 = 2
    · rw [if_pos h2]
      split
      · rename_i h3
        obtain ⟨rfl, _, _⟩ := hin.1 h3
        rw [hbz h2.1]
        unfold conC conS
        rw [if_neg (by rw [h2.2]; decide)]
        exact zz r
      · rfl
    · rw [if_neg h2, put_con h hc hx (need_free hfree h1 h2)]
      by_cases e : q = c
      · subst e
        rw [if_pos rfl]
        have e2 : (if needB (M.t.getD q zS) = true then x q else conC M q) = conC M q := by split; exact hx0; rfl
        rw [e2, spl_getD (by rw [h.toOkJ.conc]; omega)]
        rw [hb]
        by_cases h3 : f ≤ r ∧ r < t
        · rw [if_pos h3, if_pos (hin.2 ⟨rfl, h3⟩)]
          congr 1
          omega
        · rw [if_neg h3, if_neg (fun hh => h3 (hin.1 hh).2)]
      · rw [if_neg e, if_neg (fun hh => e (hin.1 hh).1)]
end
/-- k pieces of sectors, written, or made 0; x: what is told of Holes, of an image -/
def wrN (zero : Bool) (M : Img) (a l : Nat) (b : By) (x : Img → Nat → By) : Nat → Img
  | 0 => M
  | k + 1 => wrK zero (wrN zero M a l b x k) (pcC M.z a k) (pcFr M.z a k) (pcTo M.z a l k) ((b.drop (pcAt M.z a k)).take (pcTo M.z a l k - pcFr M.z a k)) (x (wrN zero M a l b x k))
def needN (zero : Bool) (M : Img) (a l k : Nat) : Nat := (List.range k).countP fun j => needK zero M (pcC M.z a j) (pcFr M.z a j) (pcTo M.z a l j)
theorem needN_succ (zero : Bool) (M : Img) (a l k : Nat) : needN zero M a l (k + 1) = needN zero M a l k + (if needK zero M (pcC M.z a k) (pcFr M.z a k) (pcTo M.z a l k) = true then 1 else 0) := by
  unfold needN
  rw [List.range_succ, List.countP_append]
  simp [List.countP_cons]
theorem needN_mono (zero : Bool) (M : Img) (a l k j : Nat) (h : k ≤ j) : needN zero M a l k ≤ needN zero M a l j := by
  induction j with
  | zero => rw [show k = 0 by omega]; exact Nat.le_refl _
  | succ j ih =>
    by_cases e : k = j + 1
    · rw [e]; exact Nat.le_refl _
    · rw [needN_succ]
      have := ih (by omega)
      omega
/-- what holds behind k pieces -/
structure WrI (zero : Bool) (M : Img) (a l : Nat) (k : Nat) (R : Img) : Prop where
  ok : OkI R
  B : R.B = M.B
  s : R.s = M.s
  n : R.n.length = M.n.length
  t : R.t.length = M.t.length
  old : ∀ c, pcC M.z a k ≤ c → R.t.getD c zS = M.t.getD c zS
  free : freeN M.n ≤ freeN R.n + needN zero M a l k
  snap : ∀ p ∈ M.s, ∀ y ∈ p.2, conS R y = conS M y
section
variable {zero : Bool} {M : Img} {a l : Nat} {b : By} {x : Img → Nat → By}
theorem WrI.first (h : OkI M) : WrI zero M a l 0 M := ⟨h, rfl, rfl, rfl, rfl, fun _ _ => rfl, Nat.le_add_right _ _, fun _ _ _ _ => rfl⟩
theorem pc_slice {k : Nat} (hb : b.length = 16 * l) (hk : k < pcN M.z a l) : pcFr M.z a k + ((b.drop (pcAt M.z a k)).take (pcTo M.z a l k - pcFr M.z a k)).length = pcTo M.z a l k := by
  have h1 := pc_facts (z_pos M) hk
  rw [List.length_take, List.length_drop]
  omega
section
variable {k : Nat} {R : Img} (h : WrI zero M a l k R) (hal : a + l ≤ M.t.length * 2 ^ M.B) (hb : b.length = 16 * l) (hxl : ∀ (R : Img) c, OkJ R → (x R c).length = R.z) (hneed : needN zero M a l (pcN M.z a l) ≤ freeN M.n) (hk : k < pcN M.z a l)
include h
theorem WrI.z : R.z = M.z := by unfold Img.z; rw [h.B]
theorem WrI.need_eq : needK zero R (pcC M.z a k) (pcFr M.z a k) (pcTo M.z a l k) = needK zero M (pcC M.z a k) (pcFr M.z a k) (pcTo M.z a l k) := by
  unfold needK
  rw [h.old _ (Nat.le_refl _), h.z]
include hneed hk in
theorem WrI.room : needK zero R (pcC M.z a k) (pcFr M.z a k) (pcTo M.z a l k) = true → 0 < freeN R.n := fun hn => by
  rw [h.need_eq] at hn
  have h1 := needN_mono zero M a l (k + 1) (pcN M.z a l) (by omega)
  rw [needN_succ, if_pos hn] at h1
  have := h.free
  omega
include hal hk in
theorem WrI.inn : pcC M.z a k < R.t.length := by rw [h.t]; exact pc_in (z_pos M) rfl hal hk
include hal hb hxl hneed hk in
theorem WrI.succ : WrI zero M a l (k + 1) (wrK zero R (pcC M.z a k) (pcFr M.z a k) (pcTo M.z a l k) ((b.drop (pcAt M.z a k)).take (pcTo M.z a l k - pcFr M.z a k)) (x R)) := by
  have h1 := pc_facts (z_pos M) hk
  have hs := pc_slice hb hk
  have hc := h.inn hal hk
  have hr := h.room hneed hk
  have hK := wr_keep (zero := zero) (M := R) (c := pcC M.z a k) (f := pcFr M.z a k) (t := pcTo M.z a l k) (b := (b.drop (pcAt M.z a k)).take (pcTo M.z a l k - pcFr M.z a k)) (x := x R)
  have ht : pcTo M.z a l k ≤ R.z := by rw [h.z]; exact h1.2.1
  refine ⟨wr_ok h.ok hc hs ht (hxl R _ h.ok.toOkJ) hr, hK.1.trans h.B, hK.2.1.trans h.s, hK.2.2.1.trans h.n, hK.2.2.2.1.trans h.t, fun c hcc => ?_, ?_, fun p hp y hy => ?_⟩
  · have : pcC M.z a (k + 1) = pcC M.z a k + 1 := rfl
    rw [hK.2.2.2.2 c (by omega)]
    exact h.old c (by omega)
  · have := wr_free h.ok hc (b := (b.drop (pcAt M.z a k)).take (pcTo M.z a l k - pcFr M.z a k)) (x := x R) hr
    rw [h.need_eq] at this
    rw [needN_succ]
    have := h.free
    omega
  · rw [wr_snap h.ok hc (hxl R _ h.ok.toOkJ) hr (by rw [h.s]; exact hp) hy]
    exact h.snap p hp y hy
end
section
variable (h : OkI M) (hal : a + l ≤ M.t.length * 2 ^ M.B) (hb : b.length = 16 * l) (hxl : ∀ (R : Img) c, OkJ R → (x R c).length = R.z) (hneed : needN zero M a l (pcN M.z a l) ≤ freeN M.n)
include h hal hb hxl hneed
theorem wrN_inv : ∀ k, k ≤ pcN M.z a l → WrI zero M a l k (wrN zero M a l b x k)
  | 0, _ => WrI.first h
  | k + 1, hk => (wrN_inv k (by omega)).succ hal hb hxl hneed (by omega)
/-- with nothing told of Holes: the bytes are there, all else is as it was -/
theorem wrN_conX (hx : ∀ R c, x R c = conC R c) (hz : zero = true → b = zBy b.length) : ∀ k, k ≤ pcN M.z a l → ∀ y, conX (wrN zero M a l b x k) y = if 16 * a ≤ y ∧ y < 16 * a + pcE M.z a l k then b.getD (y - 16 * a) 0 else conX M y
  | 0, _, y => by
    rw [if_neg (by rw [pcE_zero]; omega)]
    rfl
  | k + 1, hk, y => by
    have ih := wrN_conX hx hz k (by omega) y
    have hI := wrN_inv h hal hb hxl hneed k (by omega)
    have h1 := pc_facts (z_pos M) (l := l) (a := a) (k := k) (by omega)
    have h2 := pcE_at (z_pos M) (l := l) (a := a) (k := k) (by omega)
    have hs := pc_slice (M := M) (a := a) (l := l) (k := k) hb (by omega)
    have ht : pcTo M.z a l k ≤ (wrN zero M a l b x k).z := by rw [hI.z]; exact h1.2.1
    have hzb : zero = true → ((b.drop (pcAt M.z a k)).take (pcTo M.z a l k - pcFr M.z a k)) = zBy ((b.drop (pcAt M.z a k)).take (pcTo M.z a l k - pcFr M.z a k)).length := fun e => by
      have hb0 := hz e
      rw [hb0]
      simp [zBy]
    show conX (wrK zero _ _ _ _ _ _) y = _
    rw [wr_conX hI.ok (hI.inn hal (by omega)) hs ht (hxl _ _ hI.ok.toOkJ) (hI.room hneed (by omega)) (hx _ _) hzb, hI.z]
    by_cases e : pcC M.z a k * M.z + pcFr M.z a k ≤ y ∧ y < pcC M.z a k * M.z + pcTo M.z a l k
    · rw [if_pos e, if_pos (by omega)]
      simp only [List.getD_eq_getElem?_getD, List.getElem?_take, List.getElem?_drop]
      rw [if_pos (by omega)]
      congr 2
      omega
    · rw [if_neg e, ih]
      by_cases e2 : 16 * a ≤ y ∧ y < 16 * a + pcE M.z a l k
      · rw [if_pos e2, if_pos (by omega)]
      · rw [if_neg e2, if_neg (by omega)]
end
end
def writeI (zero : Bool) (M : Img) (a l : Nat) (b : By) (x : Img → Nat → By) : Img := wrN zero M a l b x (pcN M.z a l)
/-! ### discarded -/
def disN (M : Img) (a l : Nat) : Nat → Img
  | 0 => M
  | k + 1 => if pcTo M.z a l k - pcFr M.z a k = M.z then setI (disN M a l k) (pcC M.z a k) zS else disN M a l k
def discardI (M : Img) (a l : Nat) : Img := disN M a l (pcN M.z a l)
structure DisI (M : Img) (a l : Nat) (k : Nat) (R : Img) : Prop where
  ok : OkI R
  B : R.B = M.B
  s : R.s = M.s
  n : R.n.length = M.n.length
  t : R.t.length = M.t.length
  snap : ∀ p ∈ M.s, ∀ y ∈ p.2, conS R y = conS M y
section
variable {M : Img} {a l : Nat}
theorem dis_inv (h : OkI M) (hal : a + l ≤ M.t.length * 2 ^ M.B) : ∀ k, k ≤ pcN M.z a l → DisI M a l k (disN M a l k)
  | 0, _ => ⟨h, rfl, rfl, rfl, rfl, fun _ _ _ _ => rfl⟩
  | k + 1, hk => by
    have ih := dis_inv h hal k (by omega)
    unfold disN
    split
    · have hc : pcC M.z a k < (disN M a l k).t.length := by rw [ih.t]; exact pc_in (z_pos M) rfl hal (by omega)
      have hk := set_len (M := disN M a l k) (c := pcC M.z a k) (s := zS)
      exact ⟨set_ok ih.ok hc (by simp [rightS, zS]) (by simp [zS]), hk.2.1.trans ih.B, hk.2.2.1.trans ih.s, hk.2.2.2.1.trans ih.n, hk.1.trans ih.t, fun p hp y hy => (set_snap ih.ok hc (by simp [rightS, zS]) (by simp [zS]) (by rw [ih.s]; exact hp) hy).trans (ih.snap p hp y hy)⟩
    · exact ⟨ih.ok, ih.B, ih.s, ih.n, ih.t, ih.snap⟩
/-- where all is discarded -/
theorem dis_all (h : OkI M) : ∀ k, k ≤ pcN M.z 0 (M.t.length * 2 ^ M.B) → ∀ c, c < k → (disN M 0 (M.t.length * 2 ^ M.B) k).t.getD c zS = zS
  | 0, _, c, hc => by omega
  | k + 1, hk, c, hc => by
    have ih := dis_all h k (by omega) c
    have hI := dis_inv h (a := 0) (l := M.t.length * 2 ^ M.B) (by omega) k (by omega)
    have h1 := pc_facts (z_pos M) (a := 0) (l := M.t.length * 2 ^ M.B) (k := k) (by omega)
    have hC : pcC M.z 0 k = k := by simp [pcC, pcF]
    have hin := pc_in (z_pos M) (a := 0) (l := M.t.length * 2 ^ M.B) (n := M.t.length) (B := M.B) (k := k) rfl (by omega) (by omega)
    rw [hC] at hin h1
    have hz : M.t.length * 2 ^ M.B * 16 = M.t.length * M.z := by unfold Img.z; rw [Nat.mul_assoc, Nat.mul_comm (2 ^ M.B)]
    have h2 : (k + 1) * M.z ≤ M.t.length * M.z := Nat.mul_le_mul_right _ hin
    rw [Nat.add_mul] at h2
    have hto : pcTo M.z 0 (M.t.length * 2 ^ M.B) k = M.z := by
      unfold pcTo
      rw [hC]
      omega
    have hfr : pcFr M.z 0 k = 0 := by unfold pcFr; omega
    have e : disN M 0 (M.t.length * 2 ^ M.B) (k + 1) = setI (disN M 0 (M.t.length * 2 ^ M.B) k) k zS := by
      show (if _ then _ else _) = _
      rw [if_pos (by rw [hto, hfr]; rfl), hC]
    rw [e, set_len.2.2.2.2, getD_setS (by rw [hI.t]; exact hin)]
    split
    · rfl
    · exact ih (by omega)
theorem dis_all_free (h : OkI M) (hs : M.s = []) : freeN (discardI M 0 (M.t.length * 2 ^ M.B)).n = M.n.length := by
  have hI := dis_inv h (a := 0) (l := M.t.length * 2 ^ M.B) (by omega) _ (Nat.le_refl _)
  have hd := dis_all h _ (Nat.le_refl _)
  have hN : M.t.length ≤ pcN M.z 0 (M.t.length * 2 ^ M.B) := by
    rcases Nat.lt_or_ge (pcN M.z 0 (M.t.length * 2 ^ M.B)) M.t.length with h' | h'
    · have h3 := (pc_lt (z_pos M) (a := 0) (l := M.t.length * 2 ^ M.B) (k := pcN M.z 0 (M.t.length * 2 ^ M.B))).2 ⟨Nat.mul_pos (by omega) (Nat.two_pow_pos _), by
        have hC : pcC M.z 0 (pcN M.z 0 (M.t.length * 2 ^ M.B)) = pcN M.z 0 (M.t.length * 2 ^ M.B) := by simp [pcC, pcF]
        rw [hC]
        have hz : 16 * (0 + M.t.length * 2 ^ M.B) = M.t.length * M.z := by unfold Img.z; rw [Nat.zero_add, Nat.mul_left_comm]
        rw [hz]
        exact Nat.mul_lt_mul_of_pos_right h' (z_pos M)⟩
      omega
    · exact h'
  unfold discardI
  generalize disN M 0 (M.t.length * 2 ^ M.B) (pcN M.z 0 (M.t.length * 2 ^ M.B)) = R at *
  have hzero : ∀ k, ng R k = 0 := fun k => by
    rw [hI.ok.cnt]
    unfold refs
    rw [hI.s, hs]
    have : ¬ 0 < cntT R.t k := fun hp => by
      obtain ⟨s, hm, h1, _⟩ := cntT_pos.1 hp
      obtain ⟨i, hi, rfl⟩ := List.getElem_of_mem hm
      have := hd i (by have := hI.t; omega)
      rw [List.getD_eq_getElem?_getD, List.getElem?_eq_getElem hi] at this
      simp only [Option.getD_some] at this
      rw [this] at h1
      simp [zS] at h1
    simp [cntS]
    omega
  rw [← hI.n]
  unfold freeN
  rw [List.countP_eq_length]
  intro y hy
  obtain ⟨i, hi, rfl⟩ := List.getElem_of_mem hy
  have := hzero i
  unfold ng at this
  rw [List.getD_eq_getElem?_getD, List.getElem?_eq_getElem hi] at this
  simpa using this
end
end Go.Proofs.YtilhbjjjmdnjmaaGreat
