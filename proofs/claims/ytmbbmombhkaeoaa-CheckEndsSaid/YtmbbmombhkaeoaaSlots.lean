/-
  Slices of slots (three cells each), of calls (five cells each), as lists: no program in sight.
-/
import Derived.Test.YtmbbmombhkaeoaaTabPlain
namespace Go.Proofs.Ytmbbmombhkaeoaa
open Go.RowKit

theorem flat_at {α : Type} (f : α → List Value) (n : Nat) (hf : ∀ x, (f x).length = n) : ∀ (l : List α) (i j : Nat), j < n → (l.flatMap f)[i * n + j]? = (l[i]?).bind (fun x => (f x)[j]?)
  | [], i, j, _ => by simp
  | x :: l, 0, j, hj => by
    rw [List.flatMap_cons, List.getElem?_append_left (by rw [hf]; omega)]; simp
  | x :: l, i + 1, j, hj => by
    have e : (i + 1) * n + j = n + (i * n + j) := by rw [Nat.add_mul, Nat.one_mul]; omega
    rw [List.flatMap_cons, List.getElem?_append_right (by rw [hf, e]; omega), hf, e, Nat.add_sub_cancel_left, flat_at f n hf l i j hj]
    simp
/-- v is a slice that reads as the list l, an element's cells being f. -/
def SlF {α : Type} (f : α → List Value) (w : World) (v : Value) (l : List α) : Prop := Sl w v l.length (l.flatMap f)
theorem SlF.le {α : Type} {f : α → List Value} {w : World} {v : Value} {l : List α} (h : SlF f w v l) : l.length ≤ maxLen := Sl.le h
theorem SlF.fr {α : Type} {f : α → List Value} {L : List Nat} {w w' : World} {v : Value} {l : List α} (h : SlF f w v l) (hf : Fr L w w') (hn : ∀ k, v.ownBlock = some k → k ∉ L) : SlF f w' v l := Sl.fr h hf hn
theorem SlF.fr0 {α : Type} {f : α → List Value} {w w' : World} {v : Value} {l : List α} (h : SlF f w v l) (hf : Fr [] w w') : SlF f w' v l := Sl.fr0 h hf
/-- what such a slice is: its length; where it has an element, its address and the element's cells -/
theorem SlF.open {α : Type} {f : α → List Value} {w : World} {v : Value} {l : List α} (h : SlF f w v l) : ∃ a cap, v = .slice a l.length cap ∧ l.length ≤ cap ∧ cap ≤ maxLen ∧
    (∀ (n : Nat), (∀ x, (f x).length = n) → 0 < n → ∀ i x, l[i]? = some x → ∃ b off, a = some ⟨b, off, none⟩ ∧ b < w.heap.size ∧ ∀ j u, (f x)[j]? = some u → w.cell? ⟨b, off + (i * n + j), none⟩ = some u) := by
  obtain ⟨a, cap, rfl, h1, h2, hc⟩ := h
  refine ⟨a, cap, rfl, h1, h2, fun n hn h0 i x hx => ?_⟩
  have hat : ∀ j u, (f x)[j]? = some u → (l.flatMap f)[i * n + j]? = some u := fun j u hu => by
    have hj : j < n := by rw [← hn x]; exact (List.getElem?_eq_some_iff.1 hu).1
    rw [flat_at f n hn l i j hj, hx]
    exact hu
  rcases hc with he | ⟨b, off, rfl, hb, hc⟩
  · exfalso
    have h0' : 0 < (f x).length := by rw [hn x]; exact h0
    have := hat 0 _ (List.getElem?_eq_getElem h0')
    rw [he] at this
    cases this
  · exact ⟨b, off, rfl, hb, fun j u hu => hc _ u (hat j u hu)⟩
abbrev SlS := SlF slotC
theorem slot_one {s : Slt} : ∀ u ∈ slotC s, u.oneCell' = true := by
  intro u hu
  simp at hu
  rcases hu with rfl | rfl | rfl <;> rfl
abbrev SlO := SlF opC
theorem getD_some {α : Type} {l : List α} {i : Nat} (d : α) (h : i < l.length) : l[i]? = some (l.getD i d) := by
  rw [List.getD_eq_getElem?_getD, List.getElem?_eq_getElem h]; rfl
/-- slot i of a slice -/
theorem SlS.at {w : World} {a : Option Addr} {cap n : Nat} {l : List Slt} (h : SlS w (.slice a n cap) l) {i : Nat} (hi : i < l.length) : ∃ b off, a = some ⟨b, off, none⟩ ∧ b < w.heap.size ∧
    w.cell? ⟨b, off + i * 3, none⟩ = some (.int .i64 (l.getD i zS).1) ∧ w.cell? ⟨b, off + i * 3 + 1, none⟩ = some (.int .i64 (l.getD i zS).2.1) ∧ w.cell? ⟨b, off + i * 3 + 2, none⟩ = some (.bool (l.getD i zS).2.2) := by
  obtain ⟨a', cap', hv, _, _, hc⟩ := h.open
  cases hv
  obtain ⟨b, off, rfl, hb, hc⟩ := hc 3 (fun _ => rfl) (by omega) i _ (getD_some zS hi)
  exact ⟨b, off, rfl, hb, hc 0 _ rfl, hc 1 _ rfl, hc 2 _ rfl⟩
def zO : Opr := (0, 0, zS)
theorem SlO.at {w : World} {a : Option Addr} {cap n : Nat} {l : List Opr} (h : SlO w (.slice a n cap) l) {i : Nat} (hi : i < l.length) : ∃ b off, a = some ⟨b, off, none⟩ ∧ b < w.heap.size ∧
    w.cell? ⟨b, off + i * 5, none⟩ = some (.int .i64 (l.getD i zO).1) ∧ w.cell? ⟨b, off + i * 5 + 1, none⟩ = some (.int .i64 (l.getD i zO).2.1) ∧ w.cell? ⟨b, off + i * 5 + 2, none⟩ = some (.int .i64 (l.getD i zO).2.2.1) ∧
    w.cell? ⟨b, off + i * 5 + 3, none⟩ = some (.int .i64 (l.getD i zO).2.2.2.1) ∧ w.cell? ⟨b, off + i * 5 + 4, none⟩ = some (.bool (l.getD i zO).2.2.2.2) := by
  obtain ⟨a', cap', hv, _, _, hc⟩ := h.open
  cases hv
  obtain ⟨b, off, rfl, hb, hc⟩ := hc 5 (fun _ => rfl) (by omega) i _ (getD_some zO hi)
  exact ⟨b, off, rfl, hb, hc 0 _ rfl, hc 1 _ rfl, hc 2 _ rfl, hc 3 _ rfl, hc 4 _ rfl⟩
/-- the cells of such a slice, as an append reads them -/
theorem SlF.news {α : Type} {f : α → List Value} {w : World} {a : Option Addr} {n cap : Nat} {l : List α} (h : SlF f w (.slice a n cap) l) (hne : l.flatMap f ≠ []) :
    ∃ b off, a = some ⟨b, off, none⟩ ∧ b < w.heap.size ∧ ∀ j u, (l.flatMap f)[j]? = some u → w.cell? ((⟨b, off, none⟩ : Addr).add j) = some u := by
  obtain ⟨a', cap', hv, _, _, hc⟩ := h
  cases hv
  rcases hc with he | ⟨b, off, rfl, hb, hc⟩
  · exact absurd he hne
  · refine ⟨b, off, rfl, hb, fun j u hu => ?_⟩
    have hadd : (⟨b, off, none⟩ : Addr).add j = ⟨b, off + j, none⟩ := by unfold Addr.add; split <;> simp_all
    rw [hadd]
    exact hc j u hu
theorem news_fr {L : List Nat} {w w' : World} {b off : Nat} {xs : List Value} (h : ∀ j u, xs[j]? = some u → w.cell? ((⟨b, off, none⟩ : Addr).add j) = some u) (hb : b < w.heap.size) (hf : Fr L w w') (hn : b ∉ L) :
    ∀ j u, xs[j]? = some u → w'.cell? ((⟨b, off, none⟩ : Addr).add j) = some u := by
  intro j u hu
  have hadd : (⟨b, off, none⟩ : Addr).add j = ⟨b, off + j, none⟩ := by unfold Addr.add; split <;> simp_all
  have := h j u hu
  rw [hadd] at this ⊢
  exact (World.cell?_of_block (hf.block b hb hn)).trans this
theorem flat_one {α : Type} {f : α → List Value} (hf : ∀ x, ∀ u ∈ f x, u.oneCell' = true) (l : List α) : ∀ u ∈ l.flatMap f, u.oneCell' = true := by
  intro u hu
  obtain ⟨x, _, hx⟩ := List.mem_flatMap.1 hu
  exact hf x u hx
theorem owns_succ {w : World} {base : Nat} {e : TypeId} {size n : Nat} {v : Value} {xs : List Value} (h : w.ownsRow base e size v n xs) (hn : 0 < n) : ∃ g cap, v = .slice (some ⟨g, 0, none⟩) n cap ∧ base ≤ g ∧ n ≤ cap := by
  rcases h.2 with ⟨_, h0⟩ | ⟨g, cap, cur, hv, hb, _, hc, _⟩
  · omega
  · exact ⟨g, cap, hv, hb, hc⟩
/-- a slice that owns its cells reads so -/
theorem SlF.of_owns {α : Type} {f : α → List Value} {w : World} {base : Nat} {e : TypeId} {size : Nat} {v : Value} {l : List α} (h : w.ownsRow base e size v l.length (l.flatMap f)) : SlF f w v l := Sl.of_owns h
/-- one element in a block of its own -/
theorem SlF.one {α : Type} {f : α → List Value} {w : World} {b : Nat} {x : α} {t : TypeId} (h : Blk w b (f x) t) : SlF f w (.slice (some ⟨b, 0, none⟩) 1 1) [x] := by
  refine ⟨_, 1, rfl, Nat.le_refl _, by decide, .inr ⟨b, 0, rfl, h.lt, fun j u hu => ?_⟩⟩
  rw [Nat.zero_add, h.cell j]
  simpa using hu
/-! ### a slot in a slice that is owned -/
theorem flat3_take (g : List Slt) : ∀ i, (g.flatMap slotC).take (i * 3) = (g.take i).flatMap slotC := by
  induction g with
  | nil => intro i; simp
  | cons s g ih =>
    intro i
    cases i with
    | zero => simp
    | succ i =>
      rw [List.flatMap_cons, List.take_succ_cons, List.flatMap_cons, ← ih i]
      have : (i + 1) * 3 = (slotC s).length + i * 3 := by simp; omega
      rw [this, List.take_length_add_append]
theorem flat3_drop (g : List Slt) : ∀ i, (g.flatMap slotC).drop (i * 3) = (g.drop i).flatMap slotC := by
  induction g with
  | nil => intro i; simp
  | cons s g ih =>
    intro i
    cases i with
    | zero => simp
    | succ i =>
      rw [List.flatMap_cons, List.drop_succ_cons, ← ih i]
      have : (i + 1) * 3 = (slotC s).length + i * 3 := by simp; omega
      rw [this, List.drop_length_add_append]
theorem flat3_length (g : List Slt) : (g.flatMap slotC).length = g.length * 3 := by
  induction g with
  | nil => rfl
  | cons s g ih => simp [ih]; omega
theorem flat3_set (g : List Slt) (i : Nat) (hi : i < g.length) (s : Slt) :
    (g.set i s).flatMap slotC = (((g.flatMap slotC).set (i * 3) (.int .i64 s.1)).set (i * 3 + 1) (.int .i64 s.2.1)).set (i * 3 + 2) (.bool s.2.2) := by
  have hl := flat3_length g
  apply List.ext_getElem?
  intro k
  obtain ⟨q, j, hj, rfl⟩ : ∃ q j, j < 3 ∧ k = q * 3 + j := ⟨k / 3, k % 3, Nat.mod_lt _ (by omega), by omega⟩
  rw [flat_at slotC 3 (fun _ => rfl) _ q j hj]
  simp only [List.getElem?_set, List.length_set, hl, flat_at slotC 3 (fun _ => rfl) _ q j hj]
  by_cases hq : i = q
  · subst hq
    match j, hj with
    | 0, _ => simp [hi]
    | 1, _ => simp [hi]; omega
    | 2, _ => simp [hi]; omega
  · rw [if_neg hq, if_neg (by omega), if_neg (by omega), if_neg (by omega)]
section
variable {w : World} {base g n cap : Nat} {e : TypeId} {l : List Slt}
theorem owns_at {size : Nat} {xs : List Value} (h : w.ownsRow base e size (.slice (some ⟨g, 0, none⟩) n cap) n xs) {j : Nat} {u : Value} (hu : xs[j]? = some u) : w.cell? ⟨g, j, none⟩ = some u ∧ w.frozen? ⟨g, j, none⟩ = false := by
  rcases h.2 with ⟨h1, _⟩ | ⟨g', cap', cur, hv, _, hg, _, _, _, ht⟩
  · cases h1
  · cases hv
    constructor
    · rw [cell_of_row w g j _ e _ hg]
      rw [← ht, List.getElem?_take] at hu
      split at hu
      · simpa using hu
      · cases hu
    · exact frozen_of_row w g j _ e hg
/-- a store into it -/
theorem owns_put {size : Nat} {xs : List Value} (h : w.ownsRow base e size (.slice (some ⟨g, 0, none⟩) n cap) n xs) (j : Nat) (u : Value) : (w.setCell ⟨g, j, none⟩ u).ownsRow base e size (.slice (some ⟨g, 0, none⟩) n cap) n (xs.set j u) := by
  refine ⟨by rw [List.length_set]; exact h.1, ?_⟩
  rcases h.2 with ⟨h1, _⟩ | ⟨g', cap', cur, hv, hb, hg, hn, hm, hs, ht⟩
  · cases h1
  · cases hv
    refine .inr ⟨g, cap, cur.setIfInBounds j u, rfl, hb, heap_setCell_same w g j cur e u hg, hn, hm, by simpa using hs, ?_⟩
    rw [Array.toList_setIfInBounds, List.take_set, ht]
theorem owns_put3 (h : w.ownsRow base e 3 (.slice (some ⟨g, 0, none⟩) n cap) n (l.flatMap slotC)) (hl : l.length = n) (i : Nat) (hi : i < n) (s : Slt) :
    (((w.setCell ⟨g, i * 3, none⟩ (.int .i64 s.1)).setCell ⟨g, i * 3 + 1, none⟩ (.int .i64 s.2.1)).setCell ⟨g, i * 3 + 2, none⟩ (.bool s.2.2)).ownsRow base e 3 (.slice (some ⟨g, 0, none⟩) n cap) n ((l.set i s).flatMap slotC) := by
  rw [flat3_set l i (by omega) s]
  exact owns_put (owns_put (owns_put h _ _) _ _) _ _
/-- its cells, before a store -/
theorem owns_at3 (h : w.ownsRow base e 3 (.slice (some ⟨g, 0, none⟩) n cap) n (l.flatMap slotC)) {i : Nat} (hi : i < l.length) :
    (w.cell? ⟨g, i * 3, none⟩ = some (.int .i64 (l.getD i zS).1) ∧ w.cell? ⟨g, i * 3 + 1, none⟩ = some (.int .i64 (l.getD i zS).2.1) ∧ w.cell? ⟨g, i * 3 + 2, none⟩ = some (.bool (l.getD i zS).2.2)) ∧ ∀ o, w.frozen? ⟨g, o, none⟩ = false := by
  have hat : ∀ j u, j < 3 → (slotC (l.getD i zS))[j]? = some u → (l.flatMap slotC)[i * 3 + j]? = some u := fun j u hj hu => by
    rw [flat_at slotC 3 (fun _ => rfl) l i j hj, getD_some zS hi]; exact hu
  refine ⟨⟨(owns_at h (hat 0 _ (by omega) rfl)).1, (owns_at h (hat 1 _ (by omega) rfl)).1, (owns_at h (hat 2 _ (by omega) rfl)).1⟩, fun o => ?_⟩
  rcases h.2 with ⟨h1, _⟩ | ⟨g', cap', cur, hv, _, hg, _⟩
  · cases h1
  · cases hv
    exact frozen_of_row w g o _ e hg
end
end Go.Proofs.Ytmbbmombhkaeoaa
