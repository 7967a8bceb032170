/-
  An image, in plain Lean: the steps keep what holds always.
-/
import Derived.Test.YtilhbjjjmdnjmaaGreatM00
namespace Go.Proofs.YtilhbjjjmdnjmaaGreat
open Go.RowKit

theorem mem_set_at {l : List Slt} {c : Nat} {s x : Slt} (h : x ∈ l.set c s) : x = s ∨ ∃ c', c' < l.length ∧ c' ≠ c ∧ x = l.getD c' zS := by
  obtain ⟨c', hc', he⟩ := List.mem_iff_getElem.1 h
  have hl : c' < l.length := by simpa using hc'
  by_cases e : c' = c
  · subst e
    left
    rw [← he, List.getElem_set_self]
  · right
    refine ⟨c', hl, e, ?_⟩
    rw [← he, List.getElem_set_ne (fun h => e h.symm), List.getD_eq_getElem?_getD, List.getElem?_eq_getElem hl]
    rfl
/-- one slot is another one, and the counts follow -/
theorem swap_ok {M M' : Img} (h : OkI M) {c : Nat} (hc : c < M.t.length) {s : Slt} (hs : rightS s = true) (hfr : s.1 = 1 → ng M (hst s) = 0 ∧ s.2.2 = true)
    (hB : M'.B = M.B) (ht : M'.t = M.t.set c s) (hS : M'.s = M.s) (hn : M'.n.length = M.n.length)
    (hcnt : ∀ k, ng M' k + (if isH k (M.t.getD c zS) = true then 1 else 0) = ng M k + (if isH k s = true then 1 else 0))
    (hgone : ∀ k, ng M' k = 0 → M'.d k = none) (hdat : ∀ k, 0 < ng M' k → ∃ b, M'.d k = some b ∧ b.length = M.z) : OkI M' := by
  have hz : M'.z = M.z := by unfold Img.z; rw [hB]
  have hct := fun k => cntT_set hc s k
  refine ⟨⟨hB ▸ h.B, by rw [ht, List.length_set]; exact h.len, hn ▸ h.room, ?_, hS ▸ h.rights, hS ▸ h.lens, ?_, ?_, hS ▸ h.ones, hgone, by rw [hz]; exact hdat, hS ▸ h.names, hS ▸ h.nodup, hS ▸ h.few⟩, ?_⟩
  · intro x hx
    rw [ht] at hx
    rcases mem_set_at hx with rfl | ⟨c', h1, _, rfl⟩
    · exact hs
    · exact h.right _ (getD_memS h1)
  · intro k
    have h1 := hcnt k
    have h2 := hct k
    have h3 := h.cnt k
    unfold refs at *
    rw [ht, hS]
    omega
  · intro k
    rw [ht]
    have h2 := hct k
    have h3 := h.one k
    by_cases e : isH k s = true
    · have h4 := (isH_iff.1 e)
      have h5 := (hfr h4.1).1
      rw [h4.2, h.cnt] at h5
      unfold refs at h5
      rw [if_pos e] at h2
      omega
    · rw [if_neg e] at h2
      omega
  · intro x hx h1
    rw [ht] at hx
    have h2 := hcnt (hst x)
    rcases mem_set_at hx with rfl | ⟨c', h3, h4, rfl⟩
    · obtain ⟨h5, h6⟩ := hfr h1
      rw [h6]
      rw [h5, if_pos (isH_iff.2 ⟨h1, rfl⟩)] at h2
      have : ¬ isH (hst x) (M.t.getD c zS) = true := fun e => by
        obtain ⟨e1, e2⟩ := isH_iff.1 e
        have := h.live (getD_memS hc) e1
        rw [e2] at this
        omega
      rw [if_neg this] at h2
      exact (decide_eq_true h2).symm
    · have hl := h.live (getD_memS h3) h1
      have n1 : ¬ isH (hst (M.t.getD c' zS)) s = true := fun e => by
        obtain ⟨e1, e2⟩ := isH_iff.1 e
        have := (hfr e1).1
        rw [e2] at this
        omega
      have n2 : ¬ isH (hst (M.t.getD c' zS)) (M.t.getD c zS) = true := fun e => h4 (one_at (h.one _) h3 hc (isH_iff.2 ⟨h1, rfl⟩) e)
      rw [if_neg n1, if_neg n2] at h2
      rw [h.own _ (getD_memS h3) h1]
      have h2' : ng M' (hst (M.t.getD c' zS)) = ng M (hst (M.t.getD c' zS)) := h2
      rw [h2']

/-! ### a slot without a cluster -/
theorem set_len {M : Img} {c : Nat} {s : Slt} : (setI M c s).t.length = M.t.length ∧ (setI M c s).B = M.B ∧ (setI M c s).s = M.s ∧ (setI M c s).n.length = M.n.length ∧ (setI M c s).t = M.t.set c s := by
  have := less_keep { M with t := M.t.set c s } (M.t.getD c zS)
  unfold setI
  refine ⟨?_, this.1, this.2.2.1, this.2.2.2, this.2.1⟩
  rw [this.2.1]
  simp
theorem set_ng {M : Img} (h : OkJ M) {c : Nat} (hc : c < M.t.length) (s : Slt) (k : Nat) : ng (setI M c s) k = ng M k - (if isH k (M.t.getD c zS) = true then 1 else 0) :=
  less_n (M := { M with t := M.t.set c s }) (fun h1 => ng_lt (M := M) (h.live (getD_memS hc) h1)) k
theorem set_d {M : Img} {c : Nat} {s : Slt} (k : Nat) : (setI M c s).d k = if isH k (M.t.getD c zS) = true ∧ ng M k - 1 = 0 then none else M.d k := less_d (M := { M with t := M.t.set c s }) k
theorem old_pos {M : Img} (h : OkJ M) {c : Nat} (hc : c < M.t.length) {k : Nat} (e : isH k (M.t.getD c zS) = true) : 0 < ng M k := by
  obtain ⟨e1, e2⟩ := isH_iff.1 e
  have := h.live (getD_memS hc) e1
  rwa [e2] at this
theorem set_ok {M : Img} (h : OkI M) {c : Nat} (hc : c < M.t.length) {s : Slt} (hs : rightS s = true) (h1 : s.1 ≠ 1) : OkI (setI M c s) := by
  have hn := set_ng h.toOkJ hc s
  refine swap_ok h hc hs (fun e => absurd e h1) set_len.2.1 set_len.2.2.2.2 set_len.2.2.1 set_len.2.2.2.1 (fun k => ?_) (fun k hk => ?_) (fun k hk => ?_)
  · rw [hn, isH_ne h1]
    by_cases e : isH k (M.t.getD c zS) = true
    · have := old_pos h.toOkJ hc e
      simp only [e, if_true, Bool.false_eq_true, if_false]
      omega
    · simp only [e, Bool.false_eq_true, if_false, Nat.sub_zero]
  · rw [set_d]
    rw [hn] at hk
    by_cases e : isH k (M.t.getD c zS) = true
    · rw [if_pos e] at hk
      rw [if_pos ⟨e, hk⟩]
    · rw [if_neg e] at hk
      rw [if_neg (fun hh => e hh.1)]
      exact h.gone k hk
  · rw [set_d]
    rw [hn] at hk
    by_cases e : isH k (M.t.getD c zS) = true
    · rw [if_pos e] at hk
      rw [if_neg (by omega)]
      exact h.dat k (by omega)
    · rw [if_neg e] at hk
      rw [if_neg (fun hh => e hh.1)]
      exact h.dat k (by omega)
/-- the bytes of what is still there -/
theorem set_dlive {M : Img} (h : OkJ M) {c : Nat} (hc : c < M.t.length) {s : Slt} {k : Nat} (hk : 0 < ng (setI M c s) k) : (setI M c s).d k = M.d k := by
  rw [set_ng h hc] at hk
  rw [set_d]
  by_cases e : isH k (M.t.getD c zS) = true
  · rw [if_pos e] at hk
    rw [if_neg (by omega)]
  · rw [if_neg (fun hh => e hh.1)]
theorem con_eq {M M' : Img} {x : Slt} (hB : M'.B = M.B) (h : x.1 = 1 → M'.d (hst x) = M.d (hst x)) : conS M' x = conS M x := by
  unfold conS Img.z
  split
  · rename_i h1; rw [h h1]
  · rw [hB]
theorem getD_setS {l : List Slt} {c : Nat} (hc : c < l.length) (s : Slt) (c' : Nat) : (l.set c s).getD c' zS = if c' = c then s else l.getD c' zS := getD_set l c c' s hc
theorem getD_outS {l : List Slt} {c : Nat} (hc : ¬ c < l.length) : l.getD c zS = zS := by
  rw [List.getD_eq_getElem?_getD, List.getElem?_eq_none (by omega)]; rfl
theorem set_con {M : Img} (h : OkI M) {c : Nat} (hc : c < M.t.length) {s : Slt} (hs : rightS s = true) (h1 : s.1 ≠ 1) (c' : Nat) : conC (setI M c s) c' = if c' = c then zBy M.z else conC M c' := by
  have h' := set_ok h hc hs h1
  unfold conC
  rw [set_len.2.2.2.2, getD_setS hc]
  split
  · unfold conS
    rw [if_neg h1]
    unfold Img.z
    rw [set_len.2.1]
  · rename_i e
    by_cases hc' : c' < M.t.length
    · refine con_eq set_len.2.1 fun hx => set_dlive h.toOkJ hc ?_
      refine h'.live (s := M.t.getD c' zS) ?_ hx
      have := getD_memS (l := (setI M c s).t) (c := c') (by rw [set_len.1]; exact hc')
      rw [set_len.2.2.2.2] at this ⊢
      rwa [getD_setS hc, if_neg e] at this
    · rw [getD_outS hc']
      exact con_eq set_len.2.1 fun hx => by simp [zS] at hx
theorem set_snap {M : Img} (h : OkI M) {c : Nat} (hc : c < M.t.length) {s : Slt} (hs : rightS s = true) (h1 : s.1 ≠ 1) {p : By × List Slt} (hp : p ∈ M.s) {x : Slt} (hx : x ∈ p.2) : conS (setI M c s) x = conS M x := by
  have h' := set_ok h hc hs h1
  exact con_eq set_len.2.1 fun hx1 => set_dlive h.toOkJ hc (h'.lives (by rw [set_len.2.2.1]; exact hp) hx hx1)
theorem free_set {n : List Nat} {k x : Nat} (hk : k < n.length) : freeN (n.set k x) + (if n.getD k 0 = 0 then 1 else 0) = freeN n + (if x = 0 then 1 else 0) := by
  unfold freeN
  rw [List.countP_set hk]
  have hg : n.getD k 0 = n[k] := by rw [List.getD_eq_getElem?_getD, List.getElem?_eq_getElem hk]; rfl
  rw [hg]
  have hpos : n[k] = 0 → 0 < n.countP (fun x => decide (x = 0)) := fun hp => List.countP_pos_iff.2 ⟨_, List.getElem_mem hk, by simp [hp]⟩
  by_cases h1 : n[k] = 0
  · have := hpos h1
    simp only [h1, decide_true, if_true, decide_eq_true_eq]
    omega
  · simp only [h1, decide_false, Bool.false_eq_true, if_false, decide_eq_true_eq]
    omega
theorem less_free {M : Img} {s : Slt} (hs : s.1 = 1 → 0 < ng M (hst s)) : freeN M.n ≤ freeN (lessI M s).n := by
  unfold lessI
  split
  · rename_i h1
    have h2 := hs h1
    have := free_set (n := M.n) (k := hst s) (x := ng M (hst s) - 1) (ng_lt h2)
    rw [if_neg (by unfold ng at h2; omega)] at this
    simp only
    omega
  · exact Nat.le_refl _
theorem set_free {M : Img} (h : OkJ M) {c : Nat} (hc : c < M.t.length) {s : Slt} : freeN M.n ≤ freeN (setI M c s).n :=
  less_free (M := { M with t := M.t.set c s }) fun h1 => h.live (getD_memS hc) h1

/-! ### a cluster of its own -/
def putN (M : Img) (c k : Nat) (x : By) : Img := setI { M with n := M.n.set k 1, d := setF M.d k (some x) } c (1, (k : Int), true)
section
variable {M : Img} (h : OkI M) {c k : Nat} (hc : c < M.t.length) (hk : k < M.n.length) (h0 : ng M k = 0) (x : By)
theorem putN_keep : (putN M c k x).t = M.t.set c (1, (k : Int), true) ∧ (putN M c k x).B = M.B ∧ (putN M c k x).s = M.s ∧ (putN M c k x).n.length = M.n.length := by
  have := set_len (M := { M with n := M.n.set k 1, d := setF M.d k (some x) }) (c := c) (s := (1, (k : Int), true))
  exact ⟨this.2.2.2.2, this.2.1, this.2.2.1, by unfold putN; rw [this.2.2.2.1]; simp⟩
include h hc hk in
theorem putN_ng (j : Nat) : ng (putN M c k x) j = (if j = k then 1 else ng M j) - (if isH j (M.t.getD c zS) = true then 1 else 0) := by
  have h1 : ng { M with n := M.n.set k 1, d := setF M.d k (some x) } j = if j = k then 1 else ng M j := getD_setN _ _ _ _ hk
  unfold putN setI
  rw [less_n (fun e => ?_)]
  · show ng { M with n := M.n.set k 1, d := setF M.d k (some x) } j - _ = _
    rw [h1]
  · simp only [List.length_set]
    exact ng_lt (M := M) (h.live (getD_memS hc) e)
include h hc h0 in
theorem old_ne {j : Nat} (e : isH j (M.t.getD c zS) = true) : j ≠ k := fun e' => by
  have := old_pos h.toOkJ hc e
  rw [e'] at this
  omega
include h hc hk h0 in
theorem putN_d (j : Nat) : (putN M c k x).d j = if j = k then some x else if isH j (M.t.getD c zS) = true ∧ ng M j - 1 = 0 then none else M.d j := by
  have h1 : ng { M with n := M.n.set k 1, d := setF M.d k (some x) } j = if j = k then 1 else ng M j := getD_setN _ _ _ _ hk
  have ho : isH j (M.t.getD c zS) = true → j ≠ k := fun e => old_ne h hc h0 e
  unfold putN
  rw [set_d, h1]
  by_cases e : j = k
  · rw [if_pos e, if_pos e, if_neg (fun hh => ho hh.1 e)]
    simp [setF, e]
  · rw [if_neg e, if_neg e]
    split
    · rfl
    · simp [setF, e]
include h hc hk h0 in
theorem putN_ok (hx : x.length = M.z) : OkI (putN M c k x) := by
  have hn := putN_ng h hc hk x
  have hd := putN_d h hc hk h0 x
  have ho : ∀ j, isH j (M.t.getD c zS) = true → j ≠ k := fun j e => old_ne h hc h0 e
  have hk512 : rightS (1, (k : Int), true) = true := by
    have := h.room
    simp [rightS]
    omega
  refine swap_ok h hc hk512 (fun _ => ⟨by simpa [hst] using h0, rfl⟩) (putN_keep x).2.1 (putN_keep x).1 (putN_keep x).2.2.1 (putN_keep x).2.2.2 (fun j => ?_) (fun j hj => ?_) (fun j hj => ?_)
  · rw [hn]
    have hi : isH j ((1 : Int), (k : Int), true) = decide (j = k) := by
      have hk' : hst ((1 : Int), (k : Int), true) = k := by simp [hst]
      rw [Bool.eq_iff_iff, isH_iff, hk', decide_eq_true_eq]
      exact ⟨fun e => e.2.symm, fun e => ⟨rfl, e.symm⟩⟩
    rw [hi]
    by_cases e : isH j (M.t.getD c zS) = true
    · have h1 := ho j e
      have h2 := old_pos h.toOkJ hc e
      simp only [e, h1, if_true, if_false, decide_false, Bool.false_eq_true]
      omega
    · by_cases e2 : j = k
      · subst e2
        simp only [e, h0, if_true, decide_true, Bool.false_eq_true, if_false]
      · simp only [e, e2, decide_false, Bool.false_eq_true, if_false]
        rfl
  · rw [hn] at hj
    rw [hd]
    by_cases e2 : j = k
    · subst e2
      rw [if_pos rfl, if_neg (fun e => ho j e rfl)] at hj
      omega
    · rw [if_neg e2] at hj ⊢
      by_cases e : isH j (M.t.getD c zS) = true
      · rw [if_pos e] at hj
        rw [if_pos ⟨e, hj⟩]
      · rw [if_neg e] at hj
        rw [if_neg (fun hh => e hh.1)]
        exact h.gone j hj
  · rw [hn] at hj
    rw [hd]
    by_cases e2 : j = k
    · rw [if_pos e2]
      exact ⟨x, rfl, hx⟩
    · rw [if_neg e2] at hj ⊢
      by_cases e : isH j (M.t.getD c zS) = true
      · rw [if_pos e] at hj
        rw [if_neg (by omega)]
        exact h.dat j (by omega)
      · rw [if_neg e] at hj
        rw [if_neg (fun hh => e hh.1)]
        exact h.dat j (by omega)
include h hc hk h0 in
theorem putN_dlive {j : Nat} (hj : 0 < ng (putN M c k x) j) (hne : j ≠ k) : (putN M c k x).d j = M.d j := by
  rw [putN_ng h hc hk] at hj
  rw [putN_d h hc hk h0, if_neg hne]
  rw [if_neg hne] at hj
  by_cases e : isH j (M.t.getD c zS) = true
  · rw [if_pos e] at hj
    rw [if_neg (by omega)]
  · rw [if_neg (fun hh => e hh.1)]
include h hc hk h0 in
theorem putN_free : freeN M.n ≤ freeN (putN M c k x).n + 1 := by
  have h1 := free_set (n := M.n) (k := k) (x := 1) hk
  rw [if_pos (show M.n.getD k 0 = 0 from h0), if_neg (by omega)] at h1
  have h2 : freeN (M.n.set k 1) ≤ freeN (putN M c k x).n := by
    unfold putN setI
    refine less_free (M := { M with t := M.t.set c (1, (k : Int), true), n := M.n.set k 1, d := setF M.d k (some x) }) fun e => ?_
    have h3 := h.live (getD_memS hc) e
    show 0 < (M.n.set k 1).getD _ 0
    rw [getD_setN _ _ _ _ hk]
    split
    · omega
    · exact h3
  omega
end
theorem fr1_lt {n : List Nat} (h : 0 < freeN n) : fr1 n < n.length ∧ n.getD (fr1 n) 0 = 0 := by
  unfold freeN at h
  obtain ⟨x, hx, h0⟩ := List.countP_pos_iff.1 h
  have hl := List.findIdx_lt_length_of_exists (p := fun x => decide (x = 0)) ⟨x, hx, h0⟩
  refine ⟨hl, ?_⟩
  have := List.findIdx_getElem (w := hl)
  unfold fr1
  rw [List.getD_eq_getElem?_getD, List.getElem?_eq_getElem hl]
  simpa using this
/-- bytes over others -/
def spl (x : By) (f : Nat) (b : By) : By := x.take f ++ b ++ x.drop (f + b.length)
theorem spl_len {x : By} {f : Nat} {b : By} (h : f + b.length ≤ x.length) : (spl x f b).length = x.length := by
  unfold spl
  simp
  omega
def overI (M : Img) (k f : Nat) (b : By) : Img := { M with d := setF M.d k (some (spl ((M.d k).getD []) f b)) }
theorem over_ok {M : Img} (h : OkI M) {k f : Nat} {b : By} (hk : 0 < ng M k) (hf : f + b.length ≤ M.z) : OkI (overI M k f b) := by
  obtain ⟨x, hx, hl⟩ := h.dat k hk
  refine ⟨⟨h.B, h.len, h.room, h.right, h.rights, h.lens, h.cnt, h.one, h.ones, fun j hj => ?_, fun j hj => ?_, h.names, h.nodup, h.few⟩, h.own⟩
  · have hj : ng M j = 0 := hj
    have : j ≠ k := fun e => by rw [e] at hj; omega
    simp only [overI, setF, if_neg this]
    exact h.gone j hj
  · have hj : 0 < ng M j := hj
    simp only [overI, setF]
    split
    · refine ⟨_, rfl, ?_⟩
      rw [hx]
      show (spl x f b).length = M.z
      rw [spl_len (by rw [hl]; exact hf), hl]
    · exact h.dat j hj
def needB (s : Slt) : Bool := !(decide (s.1 = 1) && s.2.2)
def putI (M : Img) (c f : Nat) (b x : By) : Img :=
  if needB (M.t.getD c zS) = true then overI (putN M c (fr1 M.n) x) (fr1 M.n) f b else overI M (hst (M.t.getD c zS)) f b
section
variable {M : Img} (h : OkI M) {c f : Nat} (hc : c < M.t.length) {b x : By} (hx : x.length = M.z) (hf : f + b.length ≤ M.z) (hfree : needB (M.t.getD c zS) = true → 0 < freeN M.n)
include h hc in
theorem own_one (hn : ¬ needB (M.t.getD c zS) = true) : (M.t.getD c zS).1 = 1 ∧ (M.t.getD c zS).2.2 = true ∧ ng M (hst (M.t.getD c zS)) = 1 := by
  simp only [needB, Bool.not_eq_true', Bool.not_eq_false, Bool.and_eq_true, decide_eq_true_eq] at hn
  have := h.own _ (getD_memS hc) hn.1
  rw [hn.2] at this
  exact ⟨hn.1, hn.2, by simpa using this.symm⟩
include h hc hf hx hfree in
theorem put_ok : OkI (putI M c f b x) := by
  unfold putI
  split
  · rename_i hn
    obtain ⟨h1, h2⟩ := fr1_lt (hfree hn)
    have h3 := putN_ok h hc h1 h2 x hx
    refine over_ok h3 ?_ (by rw [show (putN M c (fr1 M.n) x).z = M.z by unfold Img.z; rw [(putN_keep x).2.1]]; exact hf)
    rw [putN_ng h hc h1, if_pos rfl, if_neg (fun e => old_ne h hc h2 e rfl)]
    omega
  · rename_i hn
    exact over_ok h (by rw [(own_one h hc hn).2.2]; omega) hf
include h hc hfree in
theorem put_free : freeN M.n ≤ freeN (putI M c f b x).n + (if needB (M.t.getD c zS) = true then 1 else 0) := by
  unfold putI
  split
  · rename_i hn
    obtain ⟨h1, h2⟩ := fr1_lt (hfree hn)
    exact putN_free h hc h1 h2 x
  · exact Nat.le_refl _
theorem put_keep : (putI M c f b x).B = M.B ∧ (putI M c f b x).s = M.s ∧ (putI M c f b x).n.length = M.n.length ∧ (putI M c f b x).t = if needB (M.t.getD c zS) = true then M.t.set c (1, (fr1 M.n : Int), true) else M.t := by
  unfold putI
  split
  · have := putN_keep (M := M) (c := c) (k := fr1 M.n) x
    exact ⟨this.2.1, this.2.2.1, this.2.2.2, this.1⟩
  · exact ⟨rfl, rfl, rfl, rfl⟩
theorem over_con (k : Nat) (s : Slt) : conS (overI M k f b) s = if s.1 = 1 ∧ hst s = k then spl ((M.d k).getD []) f b else conS M s := by
  unfold conS overI Img.z
  by_cases h1 : s.1 = 1
  · rw [if_pos h1]
    by_cases h2 : hst s = k
    · rw [if_pos ⟨h1, h2⟩]
      simp [setF, h2]
    · rw [if_neg (fun hh => h2 hh.2), if_pos h1]
      simp [setF, h2]
  · rw [if_neg h1, if_neg (fun hh => h1 hh.1), if_neg h1]
include h hc hx hfree in
theorem put_con (c' : Nat) : conC (putI M c f b x) c' = if c' = c then spl (if needB (M.t.getD c zS) = true then x else conC M c) f b else conC M c' := by
  unfold putI
  split
  · rename_i hn
    obtain ⟨h1, h2⟩ := fr1_lt (hfree hn)
    have h3 := putN_ok h hc h1 h2 x hx
    have hd := putN_d h hc h1 h2 x (fr1 M.n)
    rw [if_pos rfl] at hd
    unfold conC
    rw [over_con]
    simp only [hd, Option.getD_some]
    have ht : (overI (putN M c (fr1 M.n) x) (fr1 M.n) f b).t = M.t.set c (1, (fr1 M.n : Int), true) := (putN_keep x).1
    rw [ht, getD_setS hc]
    by_cases e : c' = c
    · rw [if_pos e, if_pos e, if_pos ⟨rfl, by simp [hst]⟩]
    · rw [if_neg e, if_neg e]
      by_cases hc' : c' < M.t.length
      · have hne : (M.t.getD c' zS).1 = 1 → hst (M.t.getD c' zS) ≠ fr1 M.n := fun h4 h5 => by
          have := h.live (getD_memS hc') h4
          rw [h5] at this
          unfold ng at this
          omega
        rw [if_neg (fun hh => hne hh.1 hh.2)]
        refine con_eq (putN_keep x).2.1 fun h4 => putN_dlive h hc h1 h2 x ?_ (hne h4)
        refine h3.live (s := M.t.getD c' zS) ?_ h4
        have := getD_memS (l := (putN M c (fr1 M.n) x).t) (c := c') (by rw [(putN_keep x).1, List.length_set]; exact hc')
        rw [(putN_keep x).1] at this ⊢
        rwa [getD_setS hc, if_neg e] at this
      · rw [getD_outS hc', if_neg (by simp [zS])]
        exact con_eq (putN_keep x).2.1 fun hx => by simp [zS] at hx
  · rename_i hn
    obtain ⟨h1, h2, h3⟩ := own_one h hc hn
    unfold conC
    rw [over_con]
    have ht : (overI M (hst (M.t.getD c zS)) f b).t = M.t := rfl
    rw [ht]
    by_cases e : c' = c
    · rw [e, if_pos ⟨h1, rfl⟩, if_pos rfl]
      unfold conS
      rw [if_pos h1]
    · rw [if_neg e, if_neg]
      rintro ⟨h4, h5⟩
      by_cases hc' : c' < M.t.length
      · exact e (one_at (h.one _) hc' hc (isH_iff.2 ⟨h4, h5⟩) (isH_iff.2 ⟨h1, rfl⟩))
      · rw [getD_outS hc'] at h4
        simp [zS] at h4
include h hc hx hfree in
theorem put_snap {p : By × List Slt} (hp : p ∈ M.s) {y : Slt} (hy : y ∈ p.2) : conS (putI M c f b x) y = conS M y := by
  unfold putI
  split
  · rename_i hn
    obtain ⟨h1, h2⟩ := fr1_lt (hfree hn)
    have h3 := putN_ok h hc h1 h2 x hx
    have hne : y.1 = 1 → hst y ≠ fr1 M.n := fun h4 h5 => by
      have := h.lives hp hy h4
      rw [h5] at this
      unfold ng at this
      omega
    rw [over_con, if_neg (fun hh => hne hh.1 hh.2)]
    exact con_eq (putN_keep x).2.1 fun h4 => putN_dlive h hc h1 h2 x (h3.lives (by rw [(putN_keep x).2.2.1]; exact hp) hy h4) (hne h4)
  · rename_i hn
    obtain ⟨h1, h2, h3⟩ := own_one h hc hn
    rw [over_con, if_neg]
    rintro ⟨h4, h5⟩
    have h6 := h.cnt (hst (M.t.getD c zS))
    have h7 : 0 < cntT M.t (hst (M.t.getD c zS)) := cntT_pos.2 ⟨_, getD_memS hc, h1, rfl⟩
    have h8 : 0 < cntS M.s (hst (M.t.getD c zS)) := cntS_pos.2 ⟨p, hp, cntT_pos.2 ⟨y, hy, h4, h5⟩⟩
    unfold refs at h6
    omega
end
end Go.Proofs.YtilhbjjjmdnjmaaGreat

namespace Go.Proofs.YtilhbjjjmdnjmaaGreat

/-- a cluster that is listed -/
def isL (l : List Slt) (c : Nat) : Bool := (l.getD c zS).1 != 0
/-- the clusters that are listed, the first first -/
def listed (l : List Slt) : List Nat := (List.range 256).filter (isL l)
/-- how many of them come ahead of c -/
def cntL (l : List Slt) (c : Nat) : Nat := (((List.range 256).take c).filter (isL l)).length
/-- the groups that are kept, the first first -/
def keptL (l : List Slt) : List Nat := (List.range 16).filter (keptG l)
theorem rangeD {n c : Nat} (h : c < n) : (List.range n).getD c 0 = c := by
  rw [List.getD_eq_getElem?_getD, List.getElem?_range h]; rfl
theorem takeE {α : Type} (d : α) {E : List α} {k : Nat} (hk : k < E.length) : E.take (k + 1) = E.take k ++ [E.getD k d] := by
  have hg : E[k] = E.getD k d := by rw [List.getD_eq_getElem?_getD, List.getElem?_eq_getElem hk]; rfl
  rw [List.take_succ_eq_append_getElem hk, hg]
theorem dropE {α : Type} (d : α) {E : List α} {k : Nat} (hk : k < E.length) : E.drop k = E.getD k d :: E.drop (k + 1) := by
  have hg : E[k] = E.getD k d := by rw [List.getD_eq_getElem?_getD, List.getElem?_eq_getElem hk]; rfl
  rw [List.drop_eq_getElem_cons hk, hg]
theorem cnt_next {l : List Slt} {c : Nat} (hc : c < 256) (h : isL l c = true) : cntL l c < (listed l).length ∧ (listed l).getD (cntL l c) 0 = c ∧ cntL l (c + 1) = cntL l c + 1 := by
  have hl : c < (List.range 256).length := by simpa using hc
  have e0 : (List.range 256).getD c 0 = c := rangeD hc
  have e1 : listed l = ((List.range 256).take c).filter (isL l) ++ c :: ((List.range 256).drop (c + 1)).filter (isL l) := by
    have h2 : List.range 256 = (List.range 256).take c ++ c :: (List.range 256).drop (c + 1) := by
      have := dropE 0 hl
      rw [e0] at this
      rw [← this, List.take_append_drop]
    unfold listed
    have h3 := congrArg (fun l' => List.filter (isL l) l') h2
    simp only [List.filter_append, List.filter_cons, if_pos h] at h3
    exact h3
  refine ⟨by rw [e1]; unfold cntL; rw [List.length_append, List.length_cons]; omega, ?_, ?_⟩
  · rw [e1, List.getD_eq_getElem?_getD]
    unfold cntL
    rw [List.getElem?_append_right (Nat.le_refl _), Nat.sub_self]
    rfl
  · unfold cntL
    rw [takeE 0 hl, e0, List.filter_append, List.length_append, List.filter_cons, if_pos h]
    rfl
theorem cnt_skip {l : List Slt} {c : Nat} (hc : c < 256) (h : isL l c = false) : cntL l (c + 1) = cntL l c := by
  have hl : c < (List.range 256).length := by simpa using hc
  unfold cntL
  rw [takeE 0 hl, rangeD hc, List.filter_append, List.length_append, List.filter_cons, if_neg (by rw [h]; decide)]
  rfl
theorem cnt_gap {l : List Slt} (a : Nat) : ∀ b, a ≤ b → b ≤ 256 → (∀ c, a ≤ c → c < b → isL l c = false) → cntL l b = cntL l a
  | b, hab, hb, h => by
    by_cases e : a = b
    · rw [e]
    · obtain ⟨m, rfl⟩ : ∃ m, b = m + 1 := ⟨b - 1, by omega⟩
      rw [cnt_skip (by omega) (h m (by omega) (by omega))]
      exact cnt_gap a m (by omega) (by omega) (fun c h1 h2 => h c h1 (by omega))
  termination_by b => b
theorem cnt_end (l : List Slt) : cntL l 256 = (listed l).length := by
  unfold cntL listed
  rw [List.take_of_length_le (by simp)]
theorem not_kept {l : List Slt} {c : Nat} (h : keptG l (c / 16) = false) : isL l c = false := by
  have h1 := List.any_eq_false.1 h ((grp l (c / 16)).getD (c % 16) zS) (by
    rw [List.getD_eq_getElem?_getD, List.getElem?_eq_getElem (by rw [grp_length]; omega)]
    exact List.getElem_mem _)
  rw [grp_getD l _ _ (by omega), show 16 * (c / 16) + c % 16 = c by omega] at h1
  unfold isL
  simpa using h1
theorem keptL_lt (l : List Slt) : (keptL l).Pairwise (· < ·) := List.Pairwise.filter _ List.pairwise_lt_range
theorem keptL_mem {l : List Slt} {g : Nat} : g ∈ keptL l ↔ g < 16 ∧ keptG l g = true := by
  unfold keptL
  rw [List.mem_filter, List.mem_range]
/-- where the j-th group begins -/
def begL (l : List Slt) (j : Nat) : Nat := if j < (keptL l).length then 16 * (keptL l).getD j 0 else 256
theorem keptL_getD {l : List Slt} {j : Nat} (h : j < (keptL l).length) : (keptL l).getD j 0 < 16 ∧ keptG l ((keptL l).getD j 0) = true := by
  refine keptL_mem.1 ?_
  rw [List.getD_eq_getElem?_getD, List.getElem?_eq_getElem h]
  exact List.getElem_mem _
theorem keptL_mono {l : List Slt} {i j : Nat} (hj : j < (keptL l).length) (hij : i < j) : (keptL l).getD i 0 < (keptL l).getD j 0 := by
  have := List.pairwise_iff_getElem.1 (keptL_lt l) i j (by omega) hj hij
  rw [List.getD_eq_getElem?_getD, List.getElem?_eq_getElem (by omega), List.getD_eq_getElem?_getD, List.getElem?_eq_getElem hj]
  exact this
theorem kept_gap {l : List Slt} {j g : Nat} (hg : g < 16) (h1 : ∀ i, i < j → i < (keptL l).length → (keptL l).getD i 0 < g) (h2 : ∀ i, j ≤ i → i < (keptL l).length → g < (keptL l).getD i 0) : keptG l g = false := by
  cases hk : keptG l g with
  | false => rfl
  | true =>
    obtain ⟨i, hi, he⟩ := List.getElem_of_mem (keptL_mem.2 ⟨hg, hk⟩)
    have e : (keptL l).getD i 0 = g := by rw [List.getD_eq_getElem?_getD, List.getElem?_eq_getElem hi]; exact he
    rcases Nat.lt_or_ge i j with h | h
    · have := h1 i h hi; omega
    · have := h2 i h hi; omega
theorem cnt_first (l : List Slt) : cntL l (begL l 0) = 0 := by
  have hz : cntL l 0 = 0 := by simp [cntL]
  refine Eq.trans ?_ hz
  unfold begL
  split
  · rename_i h
    have hb := keptL_getD h
    refine cnt_gap 0 _ (by omega) (by omega) fun c _ hc => not_kept (kept_gap (j := 0) (by omega) (fun i hi _ => by omega) fun i _ hi => ?_)
    rcases Nat.eq_zero_or_pos i with rfl | hp
    · omega
    · have := keptL_mono hi hp; omega
  · rename_i h
    exact cnt_gap 0 _ (by omega) (by omega) fun c _ hc => not_kept (kept_gap (j := 0) (by omega) (fun i hi _ => by omega) fun i _ hi => by omega)
theorem cnt_group {l : List Slt} {j : Nat} (hj : j < (keptL l).length) : cntL l (16 * (keptL l).getD j 0 + 16) = cntL l (begL l (j + 1)) := by
  have hb := keptL_getD hj
  have key : ∀ c, 16 * (keptL l).getD j 0 + 16 ≤ c → c < begL l (j + 1) → c < 256 → isL l c = false := fun c h1 h2 h3 => by
    refine not_kept (kept_gap (j := j + 1) (by omega) (fun i hi hl => ?_) fun i hi hl => ?_)
    · rcases Nat.lt_or_ge i j with h | h
      · have := keptL_mono hj h; omega
      · have : i = j := by omega
        subst this
        omega
    · unfold begL at h2
      rw [if_pos (by omega)] at h2
      rcases Nat.lt_or_ge (j + 1) i with h | h
      · have := keptL_mono hl h; omega
      · have : i = j + 1 := by omega
        subst this
        omega
  have hle : 16 * (keptL l).getD j 0 + 16 ≤ begL l (j + 1) ∧ begL l (j + 1) ≤ 256 := by
    unfold begL
    split
    · rename_i h
      have h2 := keptL_getD h
      have := keptL_mono h (by omega : j < j + 1)
      omega
    · omega
  exact (cnt_gap _ _ hle.1 hle.2 fun c h1 h2 => key c h1 h2 (by omega)).symm
end Go.Proofs.YtilhbjjjmdnjmaaGreat
