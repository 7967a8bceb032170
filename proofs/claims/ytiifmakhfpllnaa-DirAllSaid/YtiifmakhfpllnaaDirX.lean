/-
  Reading a directory's bytes, in plain Lean; from texts to bytes.
-/
import Derived.Test.YtiifmakhfpllnaaM33
import Derived.Test.YtiifmakhfpllnaaBitDe
namespace Go.Proofs.Ytiifmakhfpllnaa
open Go.RowKit Go.Maps

theorem flat_by (s : List UInt8) : s.flatMap byC = s.map fun b => Value.int .u8 (b.toNat : Int) := by
  induction s with
  | nil => rfl
  | cons x l ih => rw [List.flatMap_cons, ih]; rfl
/-- '[]byte(s)' -/
theorem conv_bytes (s : List UInt8) (w : World) (hs : s.length ≤ maxLen) : ∃ v w', (convert 9 46 (strL s)).run Try.prog w = .ok v w' ∧ SlY w' v s ∧ okV v ∧ Fr [] w w' := by
  refine ⟨_, _, run_bytes_of_string w 9 46 5 ⟨s.toArray⟩ Try.underlying9 Try.underlying46 Try.underlying5, ?_, ?_, ?_⟩
  · have hz : (ByteArray.mk s.toArray).size = s.length := size_str s
    refine ⟨some ⟨w.heap.size, 0, none⟩, grownCap w (ByteArray.mk s.toArray).size 0 5, by rw [hz], by rw [← hz]; exact grownCap_ge _ _ _ _, grownCap_le_maxLen _ _ _ _ (by rw [hz]; exact hs), .inr ⟨w.heap.size, 0, rfl, by simp, fun j u hu => ?_⟩⟩
    rw [flat_by, List.getElem?_map] at hu
    obtain ⟨b, hb, rfl⟩ := Option.map_eq_some_iff.1 hu
    obtain ⟨hj, hb⟩ := List.getElem?_eq_some_iff.1 hb
    rw [Nat.zero_add]
    refine (cell_of_row _ w.heap.size j _ _ _ (heap_alloc_new w.drew _)).trans ?_
    rw [bytesRow_at _ _ _ (by simpa using hj)]
    simp [hb]
  · intro n cap h
    cases h
  · exact (Fr.refl [] w).drew.alloc _
/-- what has been read of bytes: of whatever directory's they are -/
def Reads (bs : List UInt8) (n k : Nat) (E0 : List Ent) (l : List UInt8) (e : Int) : Prop :=
  ∀ E, OkD E → encD E true = bs → n = E.length ∧ E0 = E.take k ∧ e = 0 ∧ l = (E.drop k).flatMap (encE true)
theorem Reads.start {bs l : List UInt8} {e : Int} {n : Nat} (h : rdNum bs 0 1 = (l, e, n)) : Reads bs n 0 [] l e := by
  intro E hE hb
  subst hb
  have hf := hE.few
  unfold encD at h
  rw [rdNum_of _ (by (show E.length < 256); omega)] at h
  cases h
  exact ⟨rfl, rfl, rfl, rfl⟩
/-- the next entry -/
theorem Reads.next {bs l : List UInt8} {e : Int} {n k : Nat} {E0 : List Ent} (h : Reads bs n k E0 l e) (hk : k < n) {l1 l2 l3 l4 s y : List UInt8} {e1 e2 e3 e4 : Int} {a b : Nat}
    (h1 : rdText l e 1 = (l1, e1, s)) (h2 : rdNum l1 e1 1 = (l2, e2, a)) (h3 : rdNum l2 e2 1 = (l3, e3, b)) (h4 : rdText l3 e3 2 = (l4, e4, y)) :
    ∀ E, OkD E → encD E true = bs → ∃ x, OkE x ∧ x.name = s ∧ a = bn x.on ∧ b = bn x.use ∧ y = encB x.S x.g x.l ∧ (∀ d ∈ E0, d.name < s) ∧ E0.length < 8 ∧ E.take (k + 1) = E0 ++ [x] ∧ n = E.length ∧ e4 = 0 ∧ l4 = (E.drop (k + 1)).flatMap (encE true) := by
  intro E hE hb
  obtain ⟨rfl, rfl, rfl, rfl⟩ := h E hE hb
  have hx := hE.all _ (List.getElem_mem hk)
  have hd := List.drop_eq_getElem_cons hk
  have ht := List.take_succ_eq_append_getElem hk
  have hr := hE.rising
  rw [← List.take_append_drop k E, List.pairwise_append] at hr
  have hlt : ∀ d ∈ E.take k, d.name < (E[k]'hk).name := fun d hd' => hr.2.2 d hd' _ (by rw [hd]; exact List.mem_cons_self)
  rw [hd, List.flatMap_cons] at h1
  generalize E[k]'hk = x at *
  have hs := okName_len hx.name
  have hsh := hx.short
  unfold encE at h1
  rw [List.append_assoc, List.append_assoc, rdText_of _ _ (by (show _ < 256); omega)] at h1
  cases h1
  rw [List.append_assoc, rdNum_of _ (bn_lt _)] at h2
  cases h2
  rw [List.append_assoc, rdNum_of _ (bn_lt _)] at h3
  cases h3
  rw [List.append_assoc, rdText_of _ _ (by (show _ < 65536); omega)] at h4
  cases h4
  refine ⟨x, hx, rfl, rfl, by rw [Bool.and_true], rfl, hlt, ?_, ht, rfl, rfl, rfl⟩
  have := hE.few
  rw [List.length_take]
  omega
theorem rdNum_short (l : List UInt8) (e : Int) (W : Nat) : (rdNum l e W).1.length ≤ l.length := by
  unfold rdNum
  split
  · exact Nat.le_refl _
  · split
    · exact Nat.le_refl _
    · simp
theorem rdTake_short (l : List UInt8) (e n : Int) (am : Bool) : (rdTake l e n am).1.length ≤ l.length ∧ (rdTake l e n am).2.2.length ≤ l.length := by
  unfold rdTake
  split
  · simp
  · split
    · simp
    · split
      · simp
      · simp; omega
theorem rdText_short (l : List UInt8) (e : Int) (W : Nat) : (rdText l e W).1.length ≤ l.length ∧ (rdText l e W).2.2.length ≤ l.length := by
  have h1 := rdNum_short l e W
  have h2 := rdTake_short (rdNum l e W).1 (rdNum l e W).2.1 ((rdNum l e W).2.2 : Int) false
  unfold rdText
  omega
theorem insE_last {x : Ent} : ∀ {E : List Ent}, (∀ d ∈ E, d.name < x.name) → insE x E = E ++ [x]
  | [], _ => rfl
  | d :: l, h => by
    have h1 := h d List.mem_cons_self
    simp only [insE, if_neg (fun h2 => List.lt_irrefl _ (List.lt_trans h1 h2))]
    rw [insE_last fun y hy => h y (List.mem_cons_of_mem _ hy)]
    rfl
theorem bn_one (b : Bool) : (((bn b : Nat) : Int) == 1) = b := by cases b <;> rfl
/-- an entry that was read -/
def rdE (s : List UInt8) (a b S g : Nat) (l : List Bool) : Ent := ⟨s, ((a : Int) == 1), ((b : Int) == 1), S, g, l⟩
theorem Reads.step {bs l : List UInt8} {e : Int} {n k : Nat} {E0 : List Ent} (h : Reads bs n k E0 l e) (hk : k < n) {l1 l2 l3 l4 s y : List UInt8} {e1 e2 e3 e4 : Int} {a b : Nat}
    (h1 : rdText l e 1 = (l1, e1, s)) (h2 : rdNum l1 e1 1 = (l2, e2, a)) (h3 : rdNum l2 e2 1 = (l3, e3, b)) (h4 : rdText l3 e3 2 = (l4, e4, y))
    {S g : Nat} {m : List Bool} (hg : goodB S g m) (hy : encB S g m = y) : Reads bs n (k + 1) (insE (rdE s a b S g m) E0) l4 e4 := by
  intro E hE hb
  obtain ⟨x, hx, rfl, rfl, rfl, rfl, hlt, _, ht, hn, he, hl⟩ := h.next hk h1 h2 h3 h4 E hE hb
  obtain ⟨rfl, rfl, rfl⟩ := encB_inj hg ⟨hx.size, hx.pow, hx.len⟩ hy
  refine ⟨hn, ?_, he, hl⟩
  have e1 : rdE x.name (bn x.on) (bn x.use) x.S x.g x.l = x := by unfold rdE; rw [bn_one, bn_one]
  rw [e1, insE_last hlt, ht]
/-- bytes that are no bits' -/
theorem Reads.noBits {bs l : List UInt8} {e : Int} {n k : Nat} {E0 : List Ent} (h : Reads bs n k E0 l e) (hk : k < n) {l1 l2 l3 l4 s y : List UInt8} {e1 e2 e3 e4 : Int} {a b : Nat}
    (h1 : rdText l e 1 = (l1, e1, s)) (h2 : rdNum l1 e1 1 = (l2, e2, a)) (h3 : rdNum l2 e2 1 = (l3, e3, b)) (h4 : rdText l3 e3 2 = (l4, e4, y)) (hno : ∀ S g m, goodB S g m → encB S g m ≠ y) : ∀ E, OkD E → encD E true ≠ bs := by
  intro E hE hb
  obtain ⟨x, hx, _, _, _, hy, _⟩ := h.next hk h1 h2 h3 h4 E hE hb
  exact hno _ _ _ ⟨hx.size, hx.pow, hx.len⟩ hy.symm
/-- a name that can't be, or is there; or there are too many -/
theorem Reads.noName {bs l : List UInt8} {e : Int} {n k : Nat} {E0 : List Ent} (h : Reads bs n k E0 l e) (hk : k < n) {l1 l2 l3 l4 s y : List UInt8} {e1 e2 e3 e4 : Int} {a b : Nat}
    (h1 : rdText l e 1 = (l1, e1, s)) (h2 : rdNum l1 e1 1 = (l2, e2, a)) (h3 : rdNum l2 e2 1 = (l3, e3, b)) (h4 : rdText l3 e3 2 = (l4, e4, y)) (hno : okName s = false ∨ findE E0 s ≠ none ∨ 8 ≤ E0.length) : ∀ E, OkD E → encD E true ≠ bs := by
  intro E hE hb
  obtain ⟨x, hx, rfl, _, _, _, hlt, h8, _⟩ := h.next hk h1 h2 h3 h4 E hE hb
  rcases hno with h | h | h
  · rw [hx.name] at h; cases h
  · refine h ?_
    unfold findE
    rw [List.find?_eq_none]
    intro d hd
    have := hlt d hd
    simp only [decide_eq_true_eq]
    intro h2
    rw [h2] at this
    exact List.lt_irrefl _ this
  · omega
/-- all has been read -/
theorem Reads.done {bs l : List UInt8} {e : Int} {n : Nat} {E0 : List Ent} (h : Reads bs n n E0 l e) : ∀ E, OkD E → encD E true = bs → E = E0 ∧ l = [] ∧ e = 0 := by
  intro E hE hb
  obtain ⟨rfl, h1, h2, h3⟩ := h E hE hb
  rw [List.take_length] at h1
  rw [List.drop_length] at h3
  exact ⟨h1.symm, h3, h2⟩
theorem oneE_none {E : List Ent} {s : List UInt8} (f : Ent → Ent) (h : ∀ d ∈ E, d.name ≠ s) : oneE E s f = E := by
  unfold oneE chE
  refine (List.map_congr_left fun d hd => ?_).trans (List.map_id _)
  rw [if_neg (by simpa using h d hd)]
  rfl
theorem oneE_ins {e : Ent} {f : Ent → Ent} (hf : ∀ x, (f x).name = x.name) : ∀ {E : List Ent}, (∀ d ∈ E, d.name ≠ e.name) → oneE (insE e E) e.name f = insE (f e) E
  | [], _ => by simp [insE, oneE, chE]
  | d :: l, h => by
    have h1 := h d List.mem_cons_self
    have h2 := oneE_none f h
    have h3 := oneE_ins hf fun y hy => h y (List.mem_cons_of_mem _ hy)
    simp only [insE, hf]
    unfold oneE chE at h2 h3 ⊢
    split
    · rw [List.map_cons, h2, if_pos (by simp)]
    · rw [List.map_cons, h3, if_neg (by simpa using h1)]
/-- a directory that is being read, beside its reader -/
structure StD' (w0 w : World) (db mb rb vb : Nat) (L : List Cel) : Prop where
  dir : DirW w db mb L
  new : ∀ k ∈ homes db mb L, w0.heap.size ≤ k ∧ k ≠ rb ∧ k ≠ vb
  fr : Fr [] w0 w
section
variable {w0 w w' : World} {db mb rb vb : Nat} {L L' : List Cel}
theorem StD'.keep (h : StD' w0 w db mb rb vb L) (hf : Fr [] w w') : StD' w0 w' db mb rb vb L := ⟨h.dir.fr0 hf, h.new, h.fr.trans0 hf⟩
theorem StD'.read (h : StD' w0 w db mb rb vb L) (hrb : w0.heap.size ≤ rb) (hf : Fr [rb] w w') : StD' w0 w' db mb rb vb L :=
  ⟨h.dir.fr hf fun k hk hx => (h.new k hk).2.1 (List.mem_singleton.1 hx), h.new, h.fr.trans hf fun x hx hl => by have := List.mem_singleton.1 hx; omega⟩
theorem StD'.change (h : StD' w0 w db mb rb vb L) (hrb : rb < w.heap.size) (hvb : vb < w.heap.size) (hD : DirW w' db mb L') (hf : Fr (mb :: feet L) w w') (hk : ∀ k ∈ feet L', k ∈ feet L ∨ w.heap.size ≤ k) : StD' w0 w' db mb rb vb L' := by
  have hs := h.fr.size
  refine ⟨hD, fun k hk' => ?_, h.fr.trans hf fun x hx hl => ?_⟩
  · simp only [homes, List.mem_cons] at hk'
    rcases hk' with rfl | rfl | hk'
    · exact h.new _ (by simp [homes])
    · exact h.new _ (by simp [homes])
    · rcases hk k hk' with h2 | h2
      · exact h.new _ (by simp [homes, h2])
      · omega
  · have := h.new x (by rcases List.mem_cons.1 hx with rfl | hx <;> simp_all [homes])
    omega
theorem StD'.apart (h : StD' w0 w db mb rb vb L) : rb ∉ mb :: feet L ∧ vb ∉ mb :: feet L := by
  constructor
  · intro hx
    exact (h.new rb (by rcases List.mem_cons.1 hx with hx | hx <;> simp [homes, hx])).2.1 rfl
  · intro hx
    exact (h.new vb (by rcases List.mem_cons.1 hx with hx | hx <;> simp [homes, hx])).2.2 rfl
end
end Go.Proofs.Ytiifmakhfpllnaa
