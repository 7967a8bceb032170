/-
  Bytes as a table, in plain Lean: what is read of a table's bytes is the table.
-/
import Derived.Test.YtknbjdbdpdbeiaaOctE
import Derived.Test.YtknbjdbdpdbeiaaOctR
namespace Go.Proofs.Ytknbjdbdpdbeiaa
open Go.RowKit Go.Maps

def goodT (l : List Slt) : Prop := l.length ≤ 256 ∧ ∀ s ∈ l, rightS s = true
theorem encR_len {n : Nat} {ks : List Nat} {G : Nat → List Slt} (h : ∀ k ∈ ks, (G k).length = 16) : (encR n ks G).length = 4 + ks.length * 66 := by
  unfold encR
  rw [List.length_append, List.length_append, numL_length, numL_length, grY_len h]
theorem encT_len (l : List Slt) : (encT l).length = 4 + (keptL l).length * 66 := encR_len fun k _ => grp_length l k
theorem keptL_le (l : List Slt) : (keptL l).length ≤ 16 := Nat.le_trans (List.length_filter_le _ _) (by simp)
/-- the number of the j-th group of a row of bytes; its slots' bytes; its slots -/
def kAt (bs : List UInt8) (j : Nat) : Nat := valL ((bs.drop (4 + 66 * j)).take 2)
def yAt (bs : List UInt8) (j : Nat) : List UInt8 := (bs.drop (4 + 66 * j + 2)).take 64
def gAt (bs : List UInt8) (j : Nat) : List Slt := restL (yAt bs j)
theorem yAt_len {bs : List UInt8} {j : Nat} (h : 4 + 66 * (j + 1) ≤ bs.length) : (yAt bs j).length = 64 := by
  unfold yAt
  rw [List.length_take, List.length_drop]
  omega
theorem gAt_len {bs : List UInt8} {j : Nat} (h : 4 + 66 * (j + 1) ≤ bs.length) : (gAt bs j).length = 16 := by
  unfold gAt
  rw [restL_length, yAt_len h]
theorem kAt_lt {bs : List UInt8} {j : Nat} : kAt bs j < 65536 := by
  have h := valL_lt ((bs.drop (4 + 66 * j)).take 2)
  have h2 : ((bs.drop (4 + 66 * j)).take 2).length ≤ 2 := by rw [List.length_take]; omega
  have h3 := Nat.pow_le_pow_right (n := 256) (by omega) h2
  unfold kAt
  omega
theorem flat_grY_drop {G : Nat → List Slt} : ∀ (ks : List Nat) (j : Nat), (∀ k ∈ ks, (G k).length = 16) → (ks.flatMap (grY G)).drop (66 * j) = (ks.drop j).flatMap (grY G)
  | [], j, _ => by simp
  | k :: ks, 0, _ => by simp
  | k :: ks, j + 1, h => by
    have hl : (grY G k).length = 66 := by unfold grY; rw [List.length_append, numL_length, flat_slY_len, h k List.mem_cons_self]
    rw [List.flatMap_cons, List.drop_succ_cons, ← flat_grY_drop ks j (fun k hk => h k (List.mem_cons_of_mem _ hk)), show 66 * (j + 1) = (grY G k).length + 66 * j by omega, List.drop_length_add_append]
section
variable {n : Nat} {ks : List Nat} {G : Nat → List Slt}
theorem encR_num (hn : n < 65536) : valL ((encR n ks G).take 2) = n := by
  unfold encR
  rw [List.append_assoc, List.take_append_of_le_length (by rw [numL_length]; exact Nat.le_refl _), List.take_of_length_le (by rw [numL_length]; exact Nat.le_refl _), valL_numL]
  exact Nat.mod_eq_of_lt hn
theorem encR_many (hk : ks.length < 65536) : valL (((encR n ks G).drop 2).take 2) = ks.length := by
  unfold encR
  rw [List.append_assoc, List.drop_append_of_le_length (by rw [numL_length]; exact Nat.le_refl _), List.drop_of_length_le (by rw [numL_length]; exact Nat.le_refl _), List.nil_append,
    List.take_append_of_le_length (by rw [numL_length]; exact Nat.le_refl _), List.take_of_length_le (by rw [numL_length]; exact Nat.le_refl _), valL_numL]
  exact Nat.mod_eq_of_lt hk
theorem encR_drop (h : ∀ k ∈ ks, (G k).length = 16) (j : Nat) : (encR n ks G).drop (4 + 66 * j) = (ks.drop j).flatMap (grY G) := by
  rw [← List.drop_drop, ← flat_grY_drop ks j h]
  congr 1
theorem encR_at (h : ∀ k ∈ ks, (G k).length = 16 ∧ ∀ s ∈ G k, rightS s = true) (hk : ∀ k ∈ ks, k < 65536) {j : Nat} (hj : j < ks.length) : kAt (encR n ks G) j = ks.getD j 0 ∧ gAt (encR n ks G) j = G (ks.getD j 0) := by
  have hd := encR_drop (n := n) (fun k hk => (h k hk).1) j
  rw [dropE 0 hj, List.flatMap_cons] at hd
  have hm := getD_memN hj
  obtain ⟨h1, h2⟩ := h _ hm
  have h3 := hk _ hm
  generalize ks.getD j 0 = k at *
  constructor
  · unfold kAt
    rw [hd]
    unfold grY
    rw [List.append_assoc, List.take_append_of_le_length (by rw [numL_length]; exact Nat.le_refl _), List.take_of_length_le (by rw [numL_length]; exact Nat.le_refl _), valL_numL]
    exact Nat.mod_eq_of_lt h3
  · unfold gAt yAt
    have hl : ((G k).flatMap slY).length = 64 := by rw [flat_slY_len, h1]
    rw [← List.drop_drop, hd]
    unfold grY
    rw [List.append_assoc, List.drop_append_of_le_length (by rw [numL_length]; exact Nat.le_refl _), List.drop_of_length_le (by rw [numL_length]; exact Nat.le_refl _), List.nil_append,
      List.take_append_of_le_length (by omega), List.take_of_length_le (by omega), restL_flat h2]
end
theorem grp_good {l : List Slt} (h : goodT l) (k : Nat) : (grp l k).length = 16 ∧ ∀ s ∈ grp l k, rightS s = true :=
  ⟨grp_length l k, fun s hs => by
    obtain ⟨i, _, rfl⟩ := List.mem_map.1 hs
    exact right_getD h.2 _⟩
theorem encT_num {l : List Slt} (h : goodT l) : valL ((encT l).take 2) = l.length := encR_num (by have := h.1; omega)
theorem encT_many (l : List Slt) : valL (((encT l).drop 2).take 2) = (keptL l).length := encR_many (by have := keptL_le l; omega)
theorem encT_at {l : List Slt} (h : goodT l) {j : Nat} (hj : j < (keptL l).length) : kAt (encT l) j = (keptL l).getD j 0 ∧ gAt (encT l) j = grp l ((keptL l).getD j 0) :=
  encR_at (fun k _ => grp_good h k) (fun k hk => by have := (keptL_mem.1 hk).1; omega) hj
/-! ### the table's own way: groups by their numbers -/
def insN (ks : List Nat) (k : Nat) : List Nat := ks.filter (fun x => decide (x < k)) ++ k :: ks.filter (fun x => decide (k < x))
theorem insN_mem {ks : List Nat} {k x : Nat} : x ∈ insN ks k ↔ x = k ∨ x ∈ ks := by
  unfold insN
  simp only [List.mem_append, List.mem_cons, List.mem_filter, decide_eq_true_eq]
  constructor
  · rintro (h | h | h)
    · exact .inr h.1
    · exact .inl h
    · exact .inr h.1
  · rintro (h | h)
    · exact .inr (.inl h)
    · rcases Nat.lt_trichotomy x k with h1 | h1 | h1
      · exact .inl ⟨h, h1⟩
      · exact .inr (.inl h1)
      · exact .inr (.inr ⟨h, h1⟩)
theorem insN_lt {ks : List Nat} {k : Nat} (h : ks.Pairwise (· < ·)) : (insN ks k).Pairwise (· < ·) := by
  unfold insN
  rw [List.pairwise_append]
  refine ⟨h.filter _, List.pairwise_cons.2 ⟨fun x hx => by simpa using (List.mem_filter.1 hx).2, h.filter _⟩, fun x hx y hy => ?_⟩
  have h1 : x < k := by simpa using (List.mem_filter.1 hx).2
  rcases List.mem_cons.1 hy with rfl | hy
  · exact h1
  · have h2 : k < y := by simpa using (List.mem_filter.1 hy).2
    omega
theorem insN_len (ks : List Nat) (k : Nat) : (insN ks k).length ≤ ks.length + 1 := by
  have h : ∀ l : List Nat, (l.filter (fun x => decide (x < k))).length + (l.filter (fun x => decide (k < x))).length ≤ l.length := by
    intro l
    induction l with
    | nil => simp
    | cons x l ih =>
      rw [List.filter_cons, List.filter_cons]
      by_cases h1 : x < k
      · have h2 : ¬ k < x := by omega
        simp only [h1, h2, decide_true, decide_false, if_true, List.length_cons]
        simp only [Bool.false_eq_true, if_false]
        omega
      · by_cases h2 : k < x
        · simp only [h1, h2, decide_true, decide_false, if_true, List.length_cons]
          simp only [Bool.false_eq_true, if_false]
          omega
        · simp only [h1, h2, decide_false, List.length_cons]
          simp only [Bool.false_eq_true, if_false]
          omega
  unfold insN
  rw [List.length_append, List.length_cons]
  have := h ks
  omega
theorem insN_end {ks : List Nat} {k : Nat} (h : ∀ x ∈ ks, x < k) : insN ks k = ks ++ [k] := by
  unfold insN
  rw [List.filter_eq_self.2 (fun x hx => by simpa using h x hx), List.filter_eq_nil_iff.2 (fun x hx => by have := h x hx; simp; omega)]
def updG (G : Nat → List Slt) (k : Nat) (g : List Slt) : Nat → List Slt := fun x => if x = k then g else G x
theorem rawM_ins (ks : List Nat) (G : Nat → List Slt) (k : Nat) (g : List Slt) : upd (rawM ks G) (.int .i64 (k : Int)) (some (.agg (gC g))) = rawM (insN ks k) (updG G k g) := by
  funext x
  by_cases hx : x = .int .i64 (k : Int)
  · subst hx
    rw [upd_same, rawM_int, if_pos ⟨by omega, by rw [Int.toNat_natCast]; exact insN_mem.2 (.inl rfl)⟩, Int.toNat_natCast]
    unfold updG
    rw [if_pos rfl]
  · rw [upd_other _ _ hx]
    cases x with
    | int q i =>
      cases q <;> try rfl
      rw [rawM_int, rawM_int]
      have hne : 0 ≤ i → i.toNat ≠ k := fun h e => hx (by congr 1; omega)
      by_cases hc : 0 ≤ i ∧ i.toNat ∈ ks
      · rw [if_pos hc, if_pos ⟨hc.1, insN_mem.2 (.inr hc.2)⟩]
        unfold updG
        rw [if_neg (hne hc.1)]
      · rw [if_neg hc, if_neg (fun h => by
          rcases insN_mem.1 h.2 with h2 | h2
          · exact hne h.1 h2
          · exact hc ⟨h.1, h2⟩)]
    | _ => rfl
theorem RawW.ins {w w' : World} {tb mb n : Nat} {ks : List Nat} {G : Nat → List Slt} (hT : RawW w tb mb n ks G) (hne : tb ≠ mb) {k : Nat} {g : List Slt} (hk : k < 65536) (hg : g.length = 16 ∧ ∀ s ∈ g, rightS s = true) (hfew : ks.length < 1000) (hf : Fr [mb] w w')
    {es : Array MapEntry} {clock : Nat} (hm : mapAt w' mb = some (es, clock)) (hi : IsM Try.prog 3 es clock (upd (rawM ks G) (.int .i64 (k : Int)) (some (.agg (gC g))))) : RawW w' tb mb n (insN ks k) (updG G k g) := by
  refine ⟨hT.blk.fr hf (by simpa using hne), hT.size, by have := insN_len ks k; omega, insN_lt hT.lt, fun x hx => ?_, fun x hx => ?_, es, clock, hm, by rw [← rawM_ins]; exact hi⟩
  · rcases insN_mem.1 hx with rfl | h
    · exact hk
    · exact hT.key x h
  · unfold updG
    split
    · exact hg
    · rename_i hxk
      rcases insN_mem.1 hx with h | h
      · exact absurd h hxk
      · exact hT.grp x h
/-- what a reading of the bytes bs has come to, if they are a table's: n clusters, m groups, of which j have been read -/
def InvD (bs : List UInt8) (n m j : Nat) (ks : List Nat) (G : Nat → List Slt) : Prop :=
  ∀ l, goodT l → encT l = bs → n = l.length ∧ m = (keptL l).length ∧ ks = (keptL l).take j ∧ ∀ k ∈ ks, G k = grp l k
theorem InvD.zero {bs : List UInt8} {G : Nat → List Slt} : InvD bs (valL (bs.take 2)) (valL ((bs.drop 2).take 2)) 0 [] G := fun l h e => by
  subst e
  exact ⟨encT_num h, encT_many l, by simp, fun k hk => by cases hk⟩
theorem InvD.long {bs : List UInt8} {n m j : Nat} {ks : List Nat} {G : Nat → List Slt} (h : InvD bs n m j ks G) (hj : j < m) (hl : bs.length < 4 + 66 * (j + 1)) : ∀ l, goodT l → encT l ≠ bs := fun l hg e => by
  obtain ⟨_, h2, _⟩ := h l hg e
  subst e
  rw [encT_len] at hl
  omega
theorem InvD.wrong {bs : List UInt8} {n m j : Nat} {ks : List Nat} {G : Nat → List Slt} (h : InvD bs n m j ks G) (hj : j < m) {s : Slt} (hs : s ∈ gAt bs j) (hr : rightS s = false) : ∀ l, goodT l → encT l ≠ bs := fun l hg e => by
  obtain ⟨_, h2, _⟩ := h l hg e
  subst e
  rw [(encT_at hg (by omega)).2] at hs
  rw [(grp_good hg _).2 s hs] at hr
  cases hr
theorem InvD.step {bs : List UInt8} {n m j : Nat} {ks : List Nat} {G : Nat → List Slt} (h : InvD bs n m j ks G) (hj : j < m) : InvD bs n m (j + 1) (insN ks (kAt bs j)) (updG G (kAt bs j) (gAt bs j)) := fun l hg e => by
  obtain ⟨h1, h2, h3, h4⟩ := h l hg e
  subst e
  have hj' : j < (keptL l).length := by omega
  obtain ⟨e1, e2⟩ := encT_at hg hj'
  rw [e1, e2]
  refine ⟨h1, h2, ?_, fun k hk => ?_⟩
  · rw [takeE 0 hj', ← h3]
    refine insN_end fun x hx => ?_
    rw [h3] at hx
    obtain ⟨i, hi, rfl⟩ := List.getElem_of_mem hx
    have hi' : i < j := by rw [List.length_take] at hi; omega
    have := keptL_mono hj' hi'
    rw [List.getElem_take]
    rw [List.getD_eq_getElem?_getD, List.getElem?_eq_getElem (by omega : i < (keptL l).length)] at this
    exact this
  · unfold updG
    split
    · rename_i hk2
      rw [hk2]
    · rename_i hk2
      rcases insN_mem.1 hk with h | h
      · exact absurd h hk2
      · exact h4 k h
/-- is each group to be kept, and each slot of a cluster that there is? -/
def wholeR (n : Nat) (ks : List Nat) (G : Nat → List Slt) : Prop := ∀ k ∈ ks, G k ≠ zG ∧ ∀ i, i < 16 → ((G k).getD i zS).1 ≠ 0 → 16 * k + i < n
def rawL (n : Nat) (ks : List Nat) (G : Nat → List Slt) : List Slt := (List.range n).map fun c => if c / 16 ∈ ks then (G (c / 16)).getD (c % 16) zS else zS
theorem rawL_length {n : Nat} {ks : List Nat} {G : Nat → List Slt} : (rawL n ks G).length = n := by simp [rawL]
theorem rawL_getD {n : Nat} {ks : List Nat} {G : Nat → List Slt} (c : Nat) : (rawL n ks G).getD c zS = if c < n ∧ c / 16 ∈ ks then (G (c / 16)).getD (c % 16) zS else zS := by
  rw [List.getD_eq_getElem?_getD]
  by_cases hc : c < n
  · rw [List.getElem?_eq_getElem (by rw [rawL_length]; exact hc)]
    simp [rawL, hc]
  · rw [List.getElem?_eq_none (by rw [rawL_length]; omega), if_neg (fun h => hc h.1)]
    rfl
section
variable {w : World} {tb mb n : Nat} {ks : List Nat} {G : Nat → List Slt}
theorem rawL_grp (h : ∀ k ∈ ks, (G k).length = 16 ∧ ∀ s ∈ G k, rightS s = true) (hw : wholeR n ks G) (k : Nat) : grp (rawL n ks G) k = if k ∈ ks then G k else zG := by
  apply List.ext_getElem
  · rw [grp_length]
    split
    · rename_i hk
      exact (h k hk).1.symm
    · exact zG_length.symm
  · intro i h1 h2
    have hi : i < 16 := by rw [grp_length] at h1; exact h1
    have e1 : ∀ h, (grp (rawL n ks G) k)[i]'h = (rawL n ks G).getD (16 * k + i) zS := fun h => by simp [grp]
    have e2 : (16 * k + i) / 16 = k := by omega
    have e3 : (16 * k + i) % 16 = i := by omega
    rw [e1 h1, rawL_getD, e2, e3]
    by_cases hk : k ∈ ks
    · simp only [if_pos hk]
      have e4 : (G k)[i]'(by rw [(h k hk).1]; exact hi) = (G k).getD i zS := by rw [List.getD_eq_getElem?_getD, List.getElem?_eq_getElem]; rfl
      rw [e4]
      by_cases hc : 16 * k + i < n
      · rw [if_pos ⟨hc, hk⟩]
      · rw [if_neg (fun h => hc h.1)]
        have h0 : ((G k).getD i zS).1 = 0 := Decidable.byContradiction fun h0 => hc ((hw k hk).2 i hi h0)
        exact (right_hole (right_getD (h k hk).2 i) h0).symm
    · simp only [if_neg hk]
      rw [if_neg (fun h => hk h.2)]
      have hz : ∀ h, zG[i]'h = zS := fun h => List.getElem_replicate (n := 16) (by simpa using hi)
      exact (hz _).symm
theorem rawL_good (hn : n ≤ 256) (h : ∀ k ∈ ks, (G k).length = 16 ∧ ∀ s ∈ G k, rightS s = true) : goodT (rawL n ks G) := by
  refine ⟨by rw [rawL_length]; exact hn, fun s hs => ?_⟩
  obtain ⟨c, _, rfl⟩ := List.mem_map.1 hs
  split
  · rename_i hc
    exact right_getD (h _ hc).2 _
  · rfl
theorem sorted_eq {a b : List Nat} (ha : a.Pairwise (· < ·)) (hb : b.Pairwise (· < ·)) (h : ∀ x, x ∈ a ↔ x ∈ b) : a = b := by
  induction a generalizing b with
  | nil =>
    cases b with
    | nil => rfl
    | cons y b => exact absurd ((h y).2 List.mem_cons_self) (by simp)
  | cons x a ih =>
    cases b with
    | nil => exact absurd ((h x).1 List.mem_cons_self) (by simp)
    | cons y b =>
      rw [List.pairwise_cons] at ha hb
      have hxy : x = y := by
        rcases List.mem_cons.1 ((h x).1 List.mem_cons_self) with e | e
        · exact e
        · rcases List.mem_cons.1 ((h y).2 List.mem_cons_self) with e2 | e2
          · exact e2.symm
          · have := ha.1 y e2; have := hb.1 x e; omega
      subst hxy
      congr 1
      refine ih ha.2 hb.2 fun z => ?_
      have hz := h z
      rw [List.mem_cons, List.mem_cons] at hz
      constructor
      · intro hza
        rcases hz.1 (.inr hza) with e | e
        · have := ha.1 z hza; omega
        · exact e
      · intro hzb
        rcases hz.2 (.inr hzb) with e | e
        · have := hb.1 z hzb; omega
        · exact e
theorem rawL_kept (hn : n ≤ 256) (hlt : ks.Pairwise (· < ·)) (h : ∀ k ∈ ks, (G k).length = 16 ∧ ∀ s ∈ G k, rightS s = true) (hw : wholeR n ks G) : keptL (rawL n ks G) = ks := by
  have hr := (rawL_good (n := n) hn h).2
  refine sorted_eq (keptL_lt _) hlt fun k => ?_
  rw [keptL_mem, kept_iff hr, rawL_grp h hw]
  constructor
  · rintro ⟨_, hk⟩
    exact Decidable.byContradiction fun hn => by rw [if_neg hn] at hk; exact hk rfl
  · intro hk
    rw [if_pos hk]
    refine ⟨?_, (hw k hk).1⟩
    apply Decidable.byContradiction
    intro hk16
    refine (hw k hk).1 ?_
    rw [zG, List.eq_replicate_iff]
    refine ⟨(h k hk).1, fun s hs => right_hole ((h k hk).2 s hs) ?_⟩
    obtain ⟨i, hi, rfl⟩ := List.getElem_of_mem hs
    have hi16 : i < 16 := by rw [← (h k hk).1]; exact hi
    apply Decidable.byContradiction
    intro h0
    have := (hw k hk).2 i hi16 (by rw [List.getD_eq_getElem?_getD, List.getElem?_eq_getElem hi]; exact h0)
    omega
theorem encR_congr {G' : Nat → List Slt} (h : ∀ k ∈ ks, G k = G' k) : encR n ks G = encR n ks G' := by
  unfold encR
  congr 1
  induction ks with
  | nil => rfl
  | cons k ks ih =>
    rw [List.flatMap_cons, List.flatMap_cons, ih (fun k hk => h k (List.mem_cons_of_mem _ hk))]
    unfold grY
    rw [h k List.mem_cons_self]
theorem rawL_enc (hn : n ≤ 256) (hlt : ks.Pairwise (· < ·)) (h : ∀ k ∈ ks, (G k).length = 16 ∧ ∀ s ∈ G k, rightS s = true) (hw : wholeR n ks G) : encT (rawL n ks G) = encR n ks G := by
  unfold encT
  rw [rawL_kept hn hlt h hw, rawL_length]
  exact encR_congr fun k hk => by rw [rawL_grp h hw, if_pos hk]
theorem RawW.tab (hT : RawW w tb mb n ks G) (hw : wholeR n ks G) : TabW w tb mb (rawL n ks G) := by
  obtain ⟨es, clock, hm, hi⟩ := hT.map
  have hg := rawL_good (n := n) hT.size hT.grp
  refine ⟨by rw [rawL_length]; exact hT.blk, hg.1, hg.2, es, clock, hm, ?_⟩
  have e : tabM (rawL n ks G) = rawM ks G := by
    funext v
    cases v with
    | int q k =>
      cases q <;> try rfl
      rw [rawM_int, tabM_int]
      have hkk := rawL_kept hT.size hT.lt hT.grp hw
      by_cases hc : 0 ≤ k ∧ k.toNat ∈ ks
      · have h2 := hc.2
        rw [← hkk, keptL_mem] at h2
        rw [if_pos hc, if_pos ⟨hc.1, by omega, h2.2⟩, rawL_grp hT.grp hw, if_pos hc.2]
      · rw [if_neg hc, if_neg (fun h => hc ⟨h.1, by rw [← hkk, keptL_mem]; exact ⟨by omega, h.2.2⟩⟩)]
    | _ => rfl
  rw [e]
  exact hi
theorem InvD.done {bs : List UInt8} {m j : Nat} (h : InvD bs n m j ks G) (hj : j = m) {l : List Slt} (hg : goodT l) (he : encT l = bs) : wholeR n ks G ∧ encR n ks G = bs ∧ bs.length = 4 + 66 * m := by
  obtain ⟨h1, h2, h3, h4⟩ := h l hg he
  have hks : ks = keptL l := by rw [h3, hj, h2, List.take_length]
  subst he
  refine ⟨fun k hk => ?_, ?_, ?_⟩
  · rw [h4 k hk]
    rw [hks, keptL_mem] at hk
    refine ⟨(kept_iff hg.2).1 hk.2, fun i hi h0 => ?_⟩
    apply Decidable.byContradiction
    intro hc
    rw [grp_getD l k i hi, List.getD_eq_getElem?_getD, List.getElem?_eq_none (by omega)] at h0
    exact h0 rfl
  · have e := encR_congr (n := n) h4
    rw [e, h1, hks]
    rfl
  · rw [encT_len, h2, Nat.mul_comm]
end
/-! ### the document's way: slot by slot -/
def putR (l : List Slt) (b : Nat) : List Slt → List Slt
  | [] => l
  | s :: r => putR (tSet l (b : Int) s).1 (b + 1) r
theorem putR_length : ∀ (r : List Slt) (l : List Slt) (b : Nat), (putR l b r).length = l.length
  | [], _, _ => rfl
  | s :: r, l, b => by unfold putR; rw [putR_length r, tSet_len]
theorem putR_right : ∀ (r : List Slt) (l : List Slt) (b : Nat), (∀ s ∈ l, rightS s = true) → ∀ s ∈ putR l b r, rightS s = true
  | [], _, _, h => h
  | s :: r, l, b, h => by unfold putR; exact putR_right r _ _ (tSet_right h)
theorem putR_snoc : ∀ (r : List Slt) (l : List Slt) (b : Nat) (s : Slt), putR l b (r ++ [s]) = (tSet (putR l b r) ((b + r.length : Nat) : Int) s).1
  | [], l, b, s => by simp [putR]
  | x :: r, l, b, s => by
    rw [List.cons_append]
    unfold putR
    rw [putR_snoc r]
    congr 3
    rw [List.length_cons]
    omega
theorem tSet_getD (l : List Slt) (b : Nat) (s : Slt) (hr : rightS s = true) (c : Nat) : (tSet l (b : Int) s).1.getD c zS = if c = b ∧ c < l.length then s else l.getD c zS := by
  unfold tSet
  by_cases hb : b < l.length
  · rw [if_pos ⟨by omega, by omega, hr⟩]
    dsimp only
    rw [Int.toNat_natCast, getD_set l b c s hb]
    by_cases h : c = b
    · subst h; rw [if_pos rfl, if_pos ⟨rfl, hb⟩]
    · rw [if_neg h, if_neg (fun h' => h h'.1)]
  · rw [if_neg (fun h => by omega)]
    by_cases h : c = b ∧ c < l.length
    · omega
    · rw [if_neg h]
theorem putR_getD : ∀ (r : List Slt) (l : List Slt) (b : Nat), (∀ s ∈ r, rightS s = true) → ∀ c, (putR l b r).getD c zS = if b ≤ c ∧ c < b + r.length ∧ c < l.length then r.getD (c - b) zS else l.getD c zS
  | [], l, b, _, c => by
    unfold putR
    rw [if_neg (fun h => by simp only [List.length_nil] at h; omega)]
  | s :: r, l, b, h, c => by
    unfold putR
    rw [putR_getD r _ _ (fun s hs => h s (List.mem_cons_of_mem _ hs)), tSet_len, tSet_getD l b s (h s List.mem_cons_self), List.length_cons]
    by_cases h1 : b + 1 ≤ c ∧ c < b + 1 + r.length ∧ c < l.length
    · rw [if_pos h1, if_pos ⟨by omega, by omega, h1.2.2⟩]
      obtain ⟨d, hd⟩ : ∃ d, c - b = d + 1 := ⟨c - b - 1, by omega⟩
      rw [show c - (b + 1) = d by omega, hd]
      rfl
    · rw [if_neg h1]
      by_cases h2 : c = b ∧ c < l.length
      · rw [if_pos h2, if_pos ⟨by omega, by omega, h2.2⟩, h2.1, Nat.sub_self]
        rfl
      · rw [if_neg h2, if_neg (fun h3 => by omega)]
/-- the slots of a group, if all may be -/
def rowsAt (bs : List UInt8) (j : Nat) : List Slt := if (gAt bs j).all rightS then gAt bs j else []
def rdecN (bs : List UInt8) : Nat → List Slt
  | 0 => List.replicate (valL (bs.take 2)) zS
  | j + 1 => putR (rdecN bs j) (16 * kAt bs j) (rowsAt bs j)
theorem rdecN_length (bs : List UInt8) : ∀ j, (rdecN bs j).length = valL (bs.take 2)
  | 0 => by simp [rdecN]
  | j + 1 => by unfold rdecN; rw [putR_length, rdecN_length bs j]
theorem rdecN_right (bs : List UInt8) : ∀ j, ∀ s ∈ rdecN bs j, rightS s = true
  | 0 => fun s hs => by rw [List.eq_of_mem_replicate hs]; rfl
  | j + 1 => by unfold rdecN; exact putR_right _ _ _ (rdecN_right bs j)
theorem rdecN_getD {l : List Slt} (h : goodT l) : ∀ j, j ≤ (keptL l).length → ∀ c, (rdecN (encT l) j).getD c zS = if c / 16 ∈ (keptL l).take j then l.getD c zS else zS
  | 0, _, c => by
    unfold rdecN
    rw [List.take_zero, if_neg (by simp), List.getD_eq_getElem?_getD, List.getElem?_replicate]
    split <;> rfl
  | j + 1, hj, c => by
    have ih := rdecN_getD h j (by omega) c
    obtain ⟨e1, e2⟩ := encT_at h (by omega : j < (keptL l).length)
    have hrow : rowsAt (encT l) j = grp l (kAt (encT l) j) := by
      unfold rowsAt
      rw [e2, e1, if_pos]
      exact List.all_eq_true.2 (grp_good h _).2
    unfold rdecN
    rw [hrow, putR_getD _ _ _ (grp_good h _).2, grp_length, rdecN_length, encT_num h, ih, takeE 0 (by omega : j < (keptL l).length), ← e1]
    generalize kAt (encT l) j = k
    simp only [List.mem_append, List.mem_singleton]
    by_cases hc : c / 16 = k
    · rw [if_pos (show c / 16 ∈ (keptL l).take j ∨ c / 16 = k from .inr hc)]
      by_cases hl : c < l.length
      · rw [if_pos (show 16 * k ≤ c ∧ c < 16 * k + 16 ∧ c < l.length from ⟨by omega, by omega, hl⟩), grp_getD l k _ (by omega)]
        congr 1
        omega
      · rw [if_neg (show ¬ (16 * k ≤ c ∧ c < 16 * k + 16 ∧ c < l.length) from fun h => hl h.2.2)]
        have : l.getD c zS = zS := by rw [List.getD_eq_getElem?_getD, List.getElem?_eq_none (by omega)]; rfl
        rw [this]
        split <;> rfl
    · rw [if_neg (show ¬ (16 * k ≤ c ∧ c < 16 * k + 16 ∧ c < l.length) from fun h => hc (by omega))]
      by_cases hm : c / 16 ∈ (keptL l).take j
      · rw [if_pos hm, if_pos (.inl hm)]
      · rw [if_neg hm, if_neg (fun h => by rcases h with h | h; exact hm h; exact hc h)]
theorem rdecN_enc {l : List Slt} (h : goodT l) : rdecN (encT l) (((encT l).length - 4) / 66) = l := by
  have hm : ((encT l).length - 4) / 66 = (keptL l).length := by rw [encT_len]; omega
  rw [hm]
  apply List.ext_getElem
  · rw [rdecN_length, encT_num h]
  · intro i h1 h2
    have e := rdecN_getD h _ (Nat.le_refl _) i
    rw [List.take_length] at e
    have e1 : (rdecN (encT l) (keptL l).length).getD i zS = (rdecN (encT l) (keptL l).length)[i] := by rw [List.getD_eq_getElem?_getD, List.getElem?_eq_getElem h1]; rfl
    have e2 : l.getD i zS = l[i] := by rw [List.getD_eq_getElem?_getD, List.getElem?_eq_getElem h2]; rfl
    rw [← e1, e]
    by_cases hk : i / 16 ∈ keptL l
    · rw [if_pos hk, e2]
    · rw [if_neg hk, ← e2]
      have hkf : keptG l (i / 16) = false := by
        cases hkk : keptG l (i / 16) with
        | false => rfl
        | true => exact absurd (keptL_mem.2 ⟨by have := h.1; omega, hkk⟩) hk
      have := not_kept hkf
      unfold isL at this
      exact (right_hole (right_getD h.2 i) (by simpa using this)).symm
theorem encT_inj {l l' : List Slt} (h : goodT l) (h' : goodT l') (e : encT l = encT l') : l = l' := by
  rw [← rdecN_enc h, e, rdecN_enc h']
end Go.Proofs.Ytknbjdbdpdbeiaa
