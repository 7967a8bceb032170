/-
  Slices of slots (three cells each), of calls (five cells each), as lists: no program in sight.
-/
import Derived.Test.YtiifmakhfpllnaaM02
import Derived.Laws.AppendOwnNone
import Derived.Test.YtiifmakhfpllnaaProg
import Derived.Laws.BytesArg
import Derived.Laws.IdiomStrings
import Derived.Laws.Strings3
import Derived.Laws.DeepStrings4
namespace Go.Proofs.Ytiifmakhfpllnaa
open Go.RowKit

theorem flat_at {α : Type} (f : α → List Value) (n : Nat) (hf : ∀ x, (f x).length = n) : ∀ (l : List α) (i j : Nat), j < n → (l.flatMap f)[i * n + j]? = (l[i]?).bind (fun x => (f x)[j]?)
  | [], i, j, _ => by simp
  | x :: l, 0, j, hj => by
    rw [List.flatMap_cons, List.getElem?_append_left (by rw [hf]; omega)]; simp
  | x :: l, i + 1, j, hj => by
    have e : (i + 1) * n + j = n + (i * n + j) := by rw [Nat.add_mul, Nat.one_mul]; omega
    rw [List.flatMap_cons, List.getElem?_append_right (by rw [hf, e]; omega), hf, e, Nat.add_sub_cancel_left, flat_at f n hf l i j hj]
    simp
/-- v is a slice that reads as the list l, an element's cells being f. -/
def SlF {α : Type} (f : α → List Value) (w : World) (v : Value) (l : List α) : Prop := Sl w v l.length (l.flatMap f)
theorem SlF.le {α : Type} {f : α → List Value} {w : World} {v : Value} {l : List α} (h : SlF f w v l) : l.length ≤ maxLen := Sl.le h
theorem SlF.fr {α : Type} {f : α → List Value} {L : List Nat} {w w' : World} {v : Value} {l : List α} (h : SlF f w v l) (hf : Fr L w w') (hn : ∀ k, v.ownBlock = some k → k ∉ L) : SlF f w' v l := Sl.fr h hf hn
theorem SlF.fr0 {α : Type} {f : α → List Value} {w w' : World} {v : Value} {l : List α} (h : SlF f w v l) (hf : Fr [] w w') : SlF f w' v l := Sl.fr0 h hf
/-- what such a slice is: its length; where it has an element, its address and the element's cells -/
theorem SlF.open {α : Type} {f : α → List Value} {w : World} {v : Value} {l : List α} (h : SlF f w v l) : ∃ a cap, v = .slice a l.length cap ∧ l.length ≤ cap ∧ cap ≤ maxLen ∧
    (∀ (n : Nat), (∀ x, (f x).length = n) → 0 < n → ∀ i x, l[i]? = some x → ∃ b off, a = some ⟨b, off, none⟩ ∧ b < w.heap.size ∧ ∀ j u, (f x)[j]? = some u → w.cell? ⟨b, off + (i * n + j), none⟩ = some u) := by
  obtain ⟨a, cap, rfl, h1, h2, hc⟩ := h
  refine ⟨a, cap, rfl, h1, h2, fun n hn h0 i x hx => ?_⟩
  have hat : ∀ j u, (f x)[j]? = some u → (l.flatMap f)[i * n + j]? = some u := fun j u hu => by
    have hj : j < n := by rw [← hn x]; exact (List.getElem?_eq_some_iff.1 hu).1
    rw [flat_at f n hn l i j hj, hx]
    exact hu
  rcases hc with he | ⟨b, off, rfl, hb, hc⟩
  · exfalso
    have h0' : 0 < (f x).length := by rw [hn x]; exact h0
    have := hat 0 _ (List.getElem?_eq_getElem h0')
    rw [he] at this
    cases this
  · exact ⟨b, off, rfl, hb, fun j u hu => hc _ u (hat j u hu)⟩
abbrev SlS := SlF slotC
theorem slot_one {s : Slt} : ∀ u ∈ slotC s, u.oneCell' = true := by
  intro u hu
  simp at hu
  rcases hu with rfl | rfl | rfl <;> rfl
abbrev SlO := SlF opC
theorem getD_some {α : Type} {l : List α} {i : Nat} (d : α) (h : i < l.length) : l[i]? = some (l.getD i d) := by
  rw [List.getD_eq_getElem?_getD, List.getElem?_eq_getElem h]; rfl
/-- slot i of a slice -/
theorem SlS.at {w : World} {a : Option Addr} {cap n : Nat} {l : List Slt} (h : SlS w (.slice a n cap) l) {i : Nat} (hi : i < l.length) : ∃ b off, a = some ⟨b, off, none⟩ ∧ b < w.heap.size ∧
    w.cell? ⟨b, off + i * 3, none⟩ = some (.int .i64 (l.getD i zS).1) ∧ w.cell? ⟨b, off + i * 3 + 1, none⟩ = some (.int .i64 (l.getD i zS).2.1) ∧ w.cell? ⟨b, off + i * 3 + 2, none⟩ = some (.bool (l.getD i zS).2.2) := by
  obtain ⟨a', cap', hv, _, _, hc⟩ := h.open
  cases hv
  obtain ⟨b, off, rfl, hb, hc⟩ := hc 3 (fun _ => rfl) (by omega) i _ (getD_some zS hi)
  exact ⟨b, off, rfl, hb, hc 0 _ rfl, hc 1 _ rfl, hc 2 _ rfl⟩
def zO : Opr := (0, 0, zS)
theorem SlO.at {w : World} {a : Option Addr} {cap n : Nat} {l : List Opr} (h : SlO w (.slice a n cap) l) {i : Nat} (hi : i < l.length) : ∃ b off, a = some ⟨b, off, none⟩ ∧ b < w.heap.size ∧
    w.cell? ⟨b, off + i * 5, none⟩ = some (.int .i64 (l.getD i zO).1) ∧ w.cell? ⟨b, off + i * 5 + 1, none⟩ = some (.int .i64 (l.getD i zO).2.1) ∧ w.cell? ⟨b, off + i * 5 + 2, none⟩ = some (.int .i64 (l.getD i zO).2.2.1) ∧
    w.cell? ⟨b, off + i * 5 + 3, none⟩ = some (.int .i64 (l.getD i zO).2.2.2.1) ∧ w.cell? ⟨b, off + i * 5 + 4, none⟩ = some (.bool (l.getD i zO).2.2.2.2) := by
  obtain ⟨a', cap', hv, _, _, hc⟩ := h.open
  cases hv
  obtain ⟨b, off, rfl, hb, hc⟩ := hc 5 (fun _ => rfl) (by omega) i _ (getD_some zO hi)
  exact ⟨b, off, rfl, hb, hc 0 _ rfl, hc 1 _ rfl, hc 2 _ rfl, hc 3 _ rfl, hc 4 _ rfl⟩
/-- the cells of such a slice, as an append reads them -/
theorem SlF.news {α : Type} {f : α → List Value} {w : World} {a : Option Addr} {n cap : Nat} {l : List α} (h : SlF f w (.slice a n cap) l) (hne : l.flatMap f ≠ []) :
    ∃ b off, a = some ⟨b, off, none⟩ ∧ b < w.heap.size ∧ ∀ j u, (l.flatMap f)[j]? = some u → w.cell? ((⟨b, off, none⟩ : Addr).add j) = some u := by
  obtain ⟨a', cap', hv, _, _, hc⟩ := h
  cases hv
  rcases hc with he | ⟨b, off, rfl, hb, hc⟩
  · exact absurd he hne
  · refine ⟨b, off, rfl, hb, fun j u hu => ?_⟩
    have hadd : (⟨b, off, none⟩ : Addr).add j = ⟨b, off + j, none⟩ := by unfold Addr.add; split <;> simp_all
    rw [hadd]
    exact hc j u hu
theorem news_fr {L : List Nat} {w w' : World} {b off : Nat} {xs : List Value} (h : ∀ j u, xs[j]? = some u → w.cell? ((⟨b, off, none⟩ : Addr).add j) = some u) (hb : b < w.heap.size) (hf : Fr L w w') (hn : b ∉ L) :
    ∀ j u, xs[j]? = some u → w'.cell? ((⟨b, off, none⟩ : Addr).add j) = some u := by
  intro j u hu
  have hadd : (⟨b, off, none⟩ : Addr).add j = ⟨b, off + j, none⟩ := by unfold Addr.add; split <;> simp_all
  have := h j u hu
  rw [hadd] at this ⊢
  exact (World.cell?_of_block (hf.block b hb hn)).trans this
theorem flat_one {α : Type} {f : α → List Value} (hf : ∀ x, ∀ u ∈ f x, u.oneCell' = true) (l : List α) : ∀ u ∈ l.flatMap f, u.oneCell' = true := by
  intro u hu
  obtain ⟨x, _, hx⟩ := List.mem_flatMap.1 hu
  exact hf x u hx
theorem owns_succ {w : World} {base : Nat} {e : TypeId} {size n : Nat} {v : Value} {xs : List Value} (h : w.ownsRow base e size v n xs) (hn : 0 < n) : ∃ g cap, v = .slice (some ⟨g, 0, none⟩) n cap ∧ base ≤ g ∧ n ≤ cap := by
  rcases h.2 with ⟨_, h0⟩ | ⟨g, cap, cur, hv, hb, _, hc, _⟩
  · omega
  · exact ⟨g, cap, hv, hb, hc⟩
/-- a slice that owns its cells reads so -/
theorem SlF.of_owns {α : Type} {f : α → List Value} {w : World} {base : Nat} {e : TypeId} {size : Nat} {v : Value} {l : List α} (h : w.ownsRow base e size v l.length (l.flatMap f)) : SlF f w v l := Sl.of_owns h
/-- one element in a block of its own -/
theorem SlF.one {α : Type} {f : α → List Value} {w : World} {b : Nat} {x : α} {t : TypeId} (h : Blk w b (f x) t) : SlF f w (.slice (some ⟨b, 0, none⟩) 1 1) [x] := by
  refine ⟨_, 1, rfl, Nat.le_refl _, by decide, .inr ⟨b, 0, rfl, h.lt, fun j u hu => ?_⟩⟩
  rw [Nat.zero_add, h.cell j]
  simpa using hu
/-! ### a slot in a slice that is owned -/
theorem flat3_take (g : List Slt) : ∀ i, (g.flatMap slotC).take (i * 3) = (g.take i).flatMap slotC := by
  induction g with
  | nil => intro i; simp
  | cons s g ih =>
    intro i
    cases i with
    | zero => simp
    | succ i =>
      rw [List.flatMap_cons, List.take_succ_cons, List.flatMap_cons, ← ih i]
      have : (i + 1) * 3 = (slotC s).length + i * 3 := by simp; omega
      rw [this, List.take_length_add_append]
theorem flat3_drop (g : List Slt) : ∀ i, (g.flatMap slotC).drop (i * 3) = (g.drop i).flatMap slotC := by
  induction g with
  | nil => intro i; simp
  | cons s g ih =>
    intro i
    cases i with
    | zero => simp
    | succ i =>
      rw [List.flatMap_cons, List.drop_succ_cons, ← ih i]
      have : (i + 1) * 3 = (slotC s).length + i * 3 := by simp; omega
      rw [this, List.drop_length_add_append]
theorem flat3_length (g : List Slt) : (g.flatMap slotC).length = g.length * 3 := by
  induction g with
  | nil => rfl
  | cons s g ih => simp [ih]; omega
theorem flat3_set (g : List Slt) (i : Nat) (hi : i < g.length) (s : Slt) :
    (g.set i s).flatMap slotC = (((g.flatMap slotC).set (i * 3) (.int .i64 s.1)).set (i * 3 + 1) (.int .i64 s.2.1)).set (i * 3 + 2) (.bool s.2.2) := by
  have hl := flat3_length g
  apply List.ext_getElem?
  intro k
  obtain ⟨q, j, hj, rfl⟩ : ∃ q j, j < 3 ∧ k = q * 3 + j := ⟨k / 3, k % 3, Nat.mod_lt _ (by omega), by omega⟩
  rw [flat_at slotC 3 (fun _ => rfl) _ q j hj]
  simp only [List.getElem?_set, List.length_set, hl, flat_at slotC 3 (fun _ => rfl) _ q j hj]
  by_cases hq : i = q
  · subst hq
    match j, hj with
    | 0, _ => simp [hi]
    | 1, _ => simp [hi]; omega
    | 2, _ => simp [hi]; omega
  · rw [if_neg hq, if_neg (by omega), if_neg (by omega), if_neg (by omega)]
section
variable {w : World} {base g n cap : Nat} {e : TypeId} {l : List Slt}
theorem owns_at {size : Nat} {xs : List Value} (h : w.ownsRow base e size (.slice (some ⟨g, 0, none⟩) n cap) n xs) {j : Nat} {u : Value} (hu : xs[j]? = some u) : w.cell? ⟨g, j, none⟩ = some u ∧ w.frozen? ⟨g, j, none⟩ = false := by
  rcases h.2 with ⟨h1, _⟩ | ⟨g', cap', cur, hv, _, hg, _, _, _, ht⟩
  · cases h1
  · cases hv
    constructor
    · rw [cell_of_row w g j _ e _ hg]
      rw [← ht, List.getElem?_take] at hu
      split at hu
      · simpa using hu
      · cases hu
    · exact frozen_of_row w g j _ e hg
/-- a store into it -/
theorem owns_put {size : Nat} {xs : List Value} (h : w.ownsRow base e size (.slice (some ⟨g, 0, none⟩) n cap) n xs) (j : Nat) (u : Value) : (w.setCell ⟨g, j, none⟩ u).ownsRow base e size (.slice (some ⟨g, 0, none⟩) n cap) n (xs.set j u) := by
  refine ⟨by rw [List.length_set]; exact h.1, ?_⟩
  rcases h.2 with ⟨h1, _⟩ | ⟨g', cap', cur, hv, hb, hg, hn, hm, hs, ht⟩
  · cases h1
  · cases hv
    refine .inr ⟨g, cap, cur.setIfInBounds j u, rfl, hb, heap_setCell_same w g j cur e u hg, hn, hm, by simpa using hs, ?_⟩
    rw [Array.toList_setIfInBounds, List.take_set, ht]
theorem owns_put3 (h : w.ownsRow base e 3 (.slice (some ⟨g, 0, none⟩) n cap) n (l.flatMap slotC)) (hl : l.length = n) (i : Nat) (hi : i < n) (s : Slt) :
    (((w.setCell ⟨g, i * 3, none⟩ (.int .i64 s.1)).setCell ⟨g, i * 3 + 1, none⟩ (.int .i64 s.2.1)).setCell ⟨g, i * 3 + 2, none⟩ (.bool s.2.2)).ownsRow base e 3 (.slice (some ⟨g, 0, none⟩) n cap) n ((l.set i s).flatMap slotC) := by
  rw [flat3_set l i (by omega) s]
  exact owns_put (owns_put (owns_put h _ _) _ _) _ _
/-- its cells, before a store -/
theorem owns_at3 (h : w.ownsRow base e 3 (.slice (some ⟨g, 0, none⟩) n cap) n (l.flatMap slotC)) {i : Nat} (hi : i < l.length) :
    (w.cell? ⟨g, i * 3, none⟩ = some (.int .i64 (l.getD i zS).1) ∧ w.cell? ⟨g, i * 3 + 1, none⟩ = some (.int .i64 (l.getD i zS).2.1) ∧ w.cell? ⟨g, i * 3 + 2, none⟩ = some (.bool (l.getD i zS).2.2)) ∧ ∀ o, w.frozen? ⟨g, o, none⟩ = false := by
  have hat : ∀ j u, j < 3 → (slotC (l.getD i zS))[j]? = some u → (l.flatMap slotC)[i * 3 + j]? = some u := fun j u hj hu => by
    rw [flat_at slotC 3 (fun _ => rfl) l i j hj, getD_some zS hi]; exact hu
  refine ⟨⟨(owns_at h (hat 0 _ (by omega) rfl)).1, (owns_at h (hat 1 _ (by omega) rfl)).1, (owns_at h (hat 2 _ (by omega) rfl)).1⟩, fun o => ?_⟩
  rcases h.2 with ⟨h1, _⟩ | ⟨g', cap', cur, hv, _, hg, _⟩
  · cases h1
  · cases hv
    exact frozen_of_row w g o _ e hg
end
end Go.Proofs.Ytiifmakhfpllnaa

namespace Go.Proofs.Ytiifmakhfpllnaa
open Go.RowKit

abbrev boolC (b : Bool) : List Value := [.bool b]
abbrev SlB := SlF boolC
theorem bool_one {b : Bool} : ∀ u ∈ boolC b, u.oneCell' = true := by
  intro u hu
  simp at hu
  subst hu
  rfl
theorem flatB_length (l : List Bool) : (l.flatMap boolC).length = l.length := by induction l <;> simp_all
theorem flatB_at (l : List Bool) (i : Nat) : (l.flatMap boolC)[i]? = (l[i]?).map Value.bool := by
  have := flat_at boolC 1 (fun _ => rfl) l i 0 (by omega)
  simp only [Nat.mul_one, Nat.add_zero] at this
  rw [this]
  cases l[i]? <;> rfl
theorem flatB_set (l : List Bool) (i : Nat) (b : Bool) : (l.set i b).flatMap boolC = (l.flatMap boolC).set i (.bool b) := by
  apply List.ext_getElem?
  intro k
  rw [flatB_at, List.getElem?_set, List.getElem?_set, flatB_length, flatB_at]
  by_cases h : i = k
  · subst h
    simp only [if_true]
    split <;> rfl
  · rw [if_neg h, if_neg h]
/-- truth i of a row -/
theorem SlB.at {w : World} {a : Option Addr} {cap n : Nat} {l : List Bool} (h : SlB w (.slice a n cap) l) {i : Nat} (hi : i < l.length) : ∃ b off, a = some ⟨b, off, none⟩ ∧ b < w.heap.size ∧
    w.cell? ⟨b, off + i, none⟩ = some (.bool (l.getD i false)) := by
  obtain ⟨a', cap', hv, _, _, hc⟩ := h.open
  cases hv
  obtain ⟨b, off, rfl, hb, hc⟩ := hc 1 (fun _ => rfl) (by omega) i _ (getD_some false hi)
  have := hc 0 _ rfl
  rw [Nat.mul_one, Nat.add_zero] at this
  exact ⟨b, off, rfl, hb, this⟩
abbrev Op3 := Int × Int × Int
abbrev op3C (o : Op3) : List Value := [.int .i64 o.1, .int .i64 o.2.1, .int .i64 o.2.2]
abbrev SlP := SlF op3C
def wf3 (o : Op3) : Prop := (-9223372036854775808 ≤ o.1 ∧ o.1 ≤ 9223372036854775807) ∧ (-9223372036854775808 ≤ o.2.1 ∧ o.2.1 ≤ 9223372036854775807) ∧ (-9223372036854775808 ≤ o.2.2 ∧ o.2.2 ≤ 9223372036854775807)
def z3 : Op3 := (0, 0, 0)
theorem SlP.at {w : World} {a : Option Addr} {cap n : Nat} {l : List Op3} (h : SlP w (.slice a n cap) l) {i : Nat} (hi : i < l.length) : ∃ b off, a = some ⟨b, off, none⟩ ∧ b < w.heap.size ∧
    w.cell? ⟨b, off + i * 3, none⟩ = some (.int .i64 (l.getD i z3).1) ∧ w.cell? ⟨b, off + i * 3 + 1, none⟩ = some (.int .i64 (l.getD i z3).2.1) ∧ w.cell? ⟨b, off + i * 3 + 2, none⟩ = some (.int .i64 (l.getD i z3).2.2) := by
  obtain ⟨a', cap', hv, _, _, hc⟩ := h.open
  cases hv
  obtain ⟨b, off, rfl, hb, hc⟩ := hc 3 (fun _ => rfl) (by omega) i _ (getD_some z3 hi)
  exact ⟨b, off, rfl, hb, hc 0 _ rfl, hc 1 _ rfl, hc 2 _ rfl⟩
/-- a slice without an address has no room -/
def okV (v : Value) : Prop := ∀ n cap, v = .slice none n cap → cap = 0
theorem okV.of_owns {w : World} {base : Nat} {e : TypeId} {size : Nat} {v : Value} {n : Nat} {xs : List Value} (h : w.ownsRow base e size v n xs) : okV v := by
  intro m cap hv
  rcases h.2 with ⟨h1, _⟩ | ⟨g, cap', cur, h1, _⟩
  · rw [h1] at hv; cases hv; rfl
  · rw [h1] at hv; cases hv
/-- 'out = append(out, l...)', out the call's own slice -/
theorem wpList_append_sl {P : Program} (T E : TypeId) (z : Value) (size bytes : Nat) (ht : P.underlying T = some (.slice E)) (hinfo : (P.info? E).map (fun i => (i.zero, i.size, i.bytes)) = some (some z, size, bytes))
    (hzs : z.cells.size = size) (hsz : 0 < size) (hby : bytes ≤ 4096) {ops : Array Oper} {rest : List Oper} {o : Oper} {a : Act} {Q : Exit → Act → World → Prop} {w : World} (hgd : o.guard = none) (s x : Operand)
    (ho : o.op = .call { callee := .builtin .append, args := #[s, x], argTypes := #[T, T] }) (base : Nat) (v : Value) (n : Nat) (xs : List Value) (hs : a.eval s = v) (hown : w.ownsRow base E size v n xs)
    (u : Value) (m : Nat) (news : List Value) (hu : Sl w u m news) (hok : okV u) (hl : news.length = m * size) (h1 : ∀ y ∈ news, y.oneCell' = true) (hx : a.eval x = u) (hn : n ≤ 4294967296) (hm : m ≤ 4294967296) (hbase : base ≤ w.heap.size)
    (h : ∀ v' w', w'.ownsRow base E size v' (n + m) (xs ++ news) → w.grownBy w' v.ownBlock → wpList P ops Q rest (a.put o.dst v') w') : wpList P ops Q (o :: rest) a w := by
  obtain ⟨i0, hi, hz0, hz1, hz2⟩ := info_parts hinfo
  obtain ⟨ad, cap, rfl, hmc, hcm, hc⟩ := hu
  cases ad with
  | none =>
    have hcap := hok _ _ rfl
    subst hcap
    have hm0 : m = 0 := by omega
    subst hm0
    have hnews : news = [] := List.eq_nil_of_length_eq_zero (by rw [hl, Nat.zero_mul])
    subst hnews
    refine wpList_append_own_none hgd s x T ho base E i0 size ht hi v n xs hs hown hx (h v w (by rw [List.append_nil]; exact hown) ⟨rfl, rfl, rfl, Nat.le_refl _, fun _ _ _ => rfl⟩)
  | some ad =>
    refine wpList_append_own w hgd s x T ho base E i0 z size bytes ht hi hz0 hz1 hz2 hzs hsz v n xs hs hown ad m cap news hx hl (fun j y hy => ?_) h1 (by unfold maxLen; omega) ?_ hbase (fun v' w' g1 g2 _ => h v' w' g1 g2)
    · rcases hc with he | ⟨b, off, hab, hb, hc⟩
      · rw [he] at hy; cases hy
      · cases hab
        have hadd : (⟨b, off, none⟩ : Addr).add j = ⟨b, off + j, none⟩ := by unfold Addr.add; split <;> simp_all
        rw [hadd]
        exact hc j y hy
    · have : (n + m) * bytes ≤ 8589934592 * 4096 := Nat.mul_le_mul (by omega) hby
      omega
end Go.Proofs.Ytiifmakhfpllnaa

namespace Go.Proofs.Ytiifmakhfpllnaa
open Go.RowKit

abbrev intC (n : Int) : List Value := [.int .i64 n]
abbrev SlI := SlF intC
theorem SlI.at {w : World} {a : Option Addr} {cap n : Nat} {l : List Int} (h : SlI w (.slice a n cap) l) {i : Nat} (hi : i < l.length) : ∃ b off, a = some ⟨b, off, none⟩ ∧ b < w.heap.size ∧
    w.cell? ⟨b, off + i, none⟩ = some (.int .i64 (l.getD i 0)) := by
  obtain ⟨a', cap', hv, _, _, hc⟩ := h.open
  cases hv
  obtain ⟨b, off, rfl, hb, hc⟩ := hc 1 (fun _ => rfl) (by omega) i _ (getD_some 0 hi)
  have := hc 0 _ rfl
  rw [Nat.mul_one, Nat.add_zero] at this
  exact ⟨b, off, rfl, hb, this⟩
theorem int_one {n : Int} : ∀ u ∈ intC n, u.oneCell' = true := by
  intro u hu
  simp at hu
  subst hu
  rfl
end Go.Proofs.Ytiifmakhfpllnaa

namespace Go.Proofs.Ytiifmakhfpllnaa
open Go.RowKit

/-- a byte's cell -/
abbrev byC (b : UInt8) : List Value := [.int .u8 (b.toNat : Int)]
abbrev SlY := SlF byC
/-- a text -/
def strL (l : List UInt8) : Value := .string ⟨l.toArray⟩
theorem by_one {b : UInt8} : ∀ u ∈ byC b, u.oneCell' = true := by
  intro u hu
  simp at hu
  subst hu
  rfl
theorem flatY_length (l : List UInt8) : (l.flatMap byC).length = l.length := by induction l <;> simp_all
theorem SlY.at {w : World} {a : Option Addr} {cap n : Nat} {l : List UInt8} (h : SlY w (.slice a n cap) l) {i : Nat} (hi : i < l.length) : ∃ b off, a = some ⟨b, off, none⟩ ∧ b < w.heap.size ∧
    w.cell? ⟨b, off + i, none⟩ = some (.int .u8 ((l.getD i 0).toNat : Int)) := by
  obtain ⟨a', cap', hv, _, _, hc⟩ := h.open
  cases hv
  obtain ⟨b, off, rfl, hb, hc⟩ := hc 1 (fun _ => rfl) (by omega) i _ (getD_some 0 hi)
  have := hc 0 _ rfl
  rw [Nat.mul_one, Nat.add_zero] at this
  exact ⟨b, off, rfl, hb, this⟩
theorem infoY : (Try.prog.info? 5).map (fun i => (i.zero, i.size, i.bytes)) = some (some (.int .u8 0), 1, 1) := by kernel_rfl
/-- 'out = append(out, l...)', out the call's own slice; where it lies behind it -/
theorem wpList_append_slL {P : Program} (T E : TypeId) (z : Value) (size bytes : Nat) (ht : P.underlying T = some (.slice E)) (hinfo : (P.info? E).map (fun i => (i.zero, i.size, i.bytes)) = some (some z, size, bytes))
    (hzs : z.cells.size = size) (hsz : 0 < size) (hby : bytes ≤ 4096) {ops : Array Oper} {rest : List Oper} {o : Oper} {a : Act} {Q : Exit → Act → World → Prop} {w : World} (hgd : o.guard = none) (s x : Operand)
    (ho : o.op = .call { callee := .builtin .append, args := #[s, x], argTypes := #[T, T] }) (base : Nat) (v : Value) (n : Nat) (xs : List Value) (hs : a.eval s = v) (hown : w.ownsRow base E size v n xs)
    (u : Value) (m : Nat) (news : List Value) (hu : Sl w u m news) (hok : okV u) (hl : news.length = m * size) (h1 : ∀ y ∈ news, y.oneCell' = true) (hx : a.eval x = u) (hn : n ≤ 4294967296) (hm : m ≤ 4294967296) (hbase : base ≤ w.heap.size)
    (h : ∀ v' w', w'.ownsRow base E size v' (n + m) (xs ++ news) → w.grownBy w' v.ownBlock → (v'.ownBlock = v.ownBlock ∨ v'.ownBlock = some w.heap.size) → wpList P ops Q rest (a.put o.dst v') w') : wpList P ops Q (o :: rest) a w := by
  obtain ⟨i0, hi, hz0, hz1, hz2⟩ := info_parts hinfo
  obtain ⟨ad, cap, rfl, hmc, hcm, hc⟩ := hu
  cases ad with
  | none =>
    have hcap := hok _ _ rfl
    subst hcap
    have hm0 : m = 0 := by omega
    subst hm0
    have hnews : news = [] := List.eq_nil_of_length_eq_zero (by rw [hl, Nat.zero_mul])
    subst hnews
    refine wpList_append_own_none hgd s x T ho base E i0 size ht hi v n xs hs hown hx (h v w (by rw [List.append_nil]; exact hown) ⟨rfl, rfl, rfl, Nat.le_refl _, fun _ _ _ => rfl⟩ (.inl rfl))
  | some ad =>
    refine wpList_append_own_at w hgd s x T ho base E i0 z size bytes ht hi hz0 hz1 hz2 hzs hsz v n xs hs hown ad m cap news hx hl (fun j y hy => ?_) h1 (by unfold maxLen; omega) ?_ hbase (fun v' w' g1 g2 _ g4 => h v' w' g1 g2 g4)
    · rcases hc with he | ⟨b, off, hab, hb, hc⟩
      · rw [he] at hy; cases hy
      · cases hab
        have hadd : (⟨b, off, none⟩ : Addr).add j = ⟨b, off + j, none⟩ := by unfold Addr.add; split <;> simp_all
        rw [hadd]
        exact hc j y hy
    · have : (n + m) * bytes ≤ 8589934592 * 4096 := Nat.mul_le_mul (by omega) hby
      omega
/-! ### a number's bytes -/
/-- the W last bytes of a number, the greatest first -/
def numL : Nat → Nat → List UInt8
  | 0, _ => []
  | W + 1, n => numL W (n / 256) ++ [UInt8.ofNat n]
theorem numL_length : ∀ (W n : Nat), (numL W n).length = W
  | 0, _ => rfl
  | W + 1, n => by simp [numL, numL_length W]
theorem numL_getD : ∀ (W n i : Nat), i < W → (numL W n).getD i 0 = UInt8.ofNat (n / 256 ^ (W - 1 - i))
  | W + 1, n, i, h => by
    unfold numL
    rw [List.getD_eq_getElem?_getD]
    by_cases hi : i < W
    · rw [List.getElem?_append_left (by rw [numL_length]; exact hi), ← List.getD_eq_getElem?_getD, numL_getD W (n / 256) i hi, Nat.div_div_eq_div_mul]
      congr 2
      rw [show W + 1 - 1 - i = (W - 1 - i) + 1 by omega, Nat.pow_succ, Nat.mul_comm]
    · have : i = W := by omega
      subst this
      rw [List.getElem?_append_right (by rw [numL_length]; exact Nat.le_refl _), numL_length, Nat.sub_self]
      simp
theorem numL_take {W n i : Nat} (h : i < W) : (numL W n).take (i + 1) = (numL W n).take i ++ [UInt8.ofNat (n / 256 ^ (W - 1 - i))] := by
  have hl : i < (numL W n).length := by rw [numL_length]; exact h
  have hg : (numL W n)[i] = (numL W n).getD i 0 := by rw [List.getD_eq_getElem?_getD, List.getElem?_eq_getElem hl]; rfl
  rw [List.take_succ_eq_append_getElem hl, hg, numL_getD W n i h]
/-- the number of bytes -/
def valL (l : List UInt8) : Nat := l.foldl (fun n b => n * 256 + b.toNat) 0
theorem valL_snoc (l : List UInt8) (b : UInt8) : valL (l ++ [b]) = valL l * 256 + b.toNat := by simp [valL]
theorem ofNat_toNat (n : Nat) : (UInt8.ofNat n).toNat = n % 256 := by simp
theorem valL_numL : ∀ (W n : Nat), valL (numL W n) = n % 256 ^ W
  | 0, n => by simp [numL, valL, Nat.mod_one]
  | W + 1, n => by
    unfold numL
    rw [valL_snoc, valL_numL W, ofNat_toNat, Nat.pow_succ]
    have h1 := Nat.div_add_mod n 256
    have h2 : n % (256 ^ W * 256) = n / 256 % 256 ^ W * 256 + n % 256 := by
      rw [Nat.mul_comm (256 ^ W) 256, Nat.mod_mul]
      omega
    omega
theorem snoc_ind {α : Type} {p : List α → Prop} (h0 : p []) (h1 : ∀ l b, p l → p (l ++ [b])) : ∀ l, p l := by
  intro l
  rw [← List.reverse_reverse l]
  generalize l.reverse = r
  induction r with
  | nil => exact h0
  | cons b r ih => rw [List.reverse_cons]; exact h1 _ _ ih
theorem valL_lt : ∀ (l : List UInt8), valL l < 256 ^ l.length := by
  refine snoc_ind (by simp [valL]) fun l b ih => ?_
  · rw [valL_snoc, List.length_append, List.length_singleton, Nat.pow_succ]
    have := b.toNat_lt
    omega
theorem numL_valL : ∀ (l : List UInt8), numL l.length (valL l) = l := by
  refine snoc_ind rfl fun l b ih => ?_
  · rw [List.length_append, List.length_singleton]
    unfold numL
    rw [valL_snoc]
    have hb := b.toNat_lt
    rw [show (valL l * 256 + b.toNat) / 256 = valL l by omega, ih]
    congr 2
    apply UInt8.toNat_inj.1
    rw [ofNat_toNat]
    omega
theorem numL_inj {W n m : Nat} (h : numL W n = numL W m) (hn : n < 256 ^ W) (hm : m < 256 ^ W) : n = m := by
  have := congrArg valL h
  rwa [valL_numL, valL_numL, Nat.mod_eq_of_lt hn, Nat.mod_eq_of_lt hm] at this
/-! ### from bytes to texts -/
theorem conv_str {w : World} {v : Value} {l : List UInt8} (h : SlY w v l) : (convert 46 9 v).run Try.prog w = .ok (strL l) w := by
  obtain ⟨a, cap, rfl, h1, h2, hc⟩ := h.open
  cases a with
  | none =>
    have hl : l = [] := by
      cases l with
      | nil => rfl
      | cons x l =>
        obtain ⟨b, off, he, _⟩ := hc 1 (fun _ => rfl) (by omega) 0 x rfl
        cases he
    subst hl
    exact run_convert_bytes_nil (P := Try.prog) w _ _ Try.underlying46 Try.underlying5 _ _ _ Try.underlying9
  | some a =>
    refine run_convert_bytes_back (P := Try.prog) w _ _ _ a cap l Try.underlying46 Try.underlying5 Try.underlying9 fun j hj => ?_
    obtain ⟨b, off, he, _, hc2⟩ := hc 1 (fun _ => rfl) (by omega) j l[j] (List.getElem?_eq_getElem hj)
    cases he
    have hadd : (⟨b, off, none⟩ : Addr).add j = ⟨b, off + j, none⟩ := by unfold Addr.add; split <;> simp_all
    have := hc2 0 _ rfl
    rw [hadd, ← this, Nat.mul_one, Nat.add_zero]
theorem str_eq (a : ByteArray) : Value.string a = strL a.data.toList := by
  unfold strL
  congr 1
theorem strL_inj {l l' : List UInt8} (h : strL l = strL l') : l = l' := by
  unfold strL at h
  have := congrArg (fun v => match v with | .string a => a.data.toList | _ => []) h
  simpa using this
end Go.Proofs.Ytiifmakhfpllnaa

namespace Go.Proofs.Ytiifmakhfpllnaa
open Go.RowKit

theorem len_str (l : List UInt8) (ty : TypeId) (X : World) : (Builtin.len_ #[9] ty #[strL l]).run Try.prog X = .ok (goInt l.length) X := by
  unfold strL
  rw [run_len_string (P := Try.prog) X _ _ _ Try.underlying9]
  rfl
theorem extract_str (l : List UInt8) (a b : Nat) : (ByteArray.mk l.toArray).extract a b = ⟨((l.drop a).take (b - a)).toArray⟩ := ByteArray.extract_mk l a b
theorem size_str (l : List UInt8) : (ByteArray.mk l.toArray).size = l.length := by simp [ByteArray.size]
/-- s[:n] -/
theorem to_str {l : List UInt8} {n : Nat} (h : n ≤ l.length) (X : World) : (Instr.slice 9 (strL l) none (some (.int .i64 (n : Int))) none).run Try.prog X = .ok (strL (l.take n)) X := by
  unfold strL
  rw [run_slice_string_to_if (P := Try.prog) X _ _ _ _ Try.underlying9, if_pos ⟨by omega, by rw [size_str]; omega⟩, extract_str]
  simp
/-- s[n:] -/
theorem from_str {l : List UInt8} {n : Nat} (h : n ≤ l.length) (X : World) : (Instr.slice 9 (strL l) (some (.int .i64 (n : Int))) none none).run Try.prog X = .ok (strL (l.drop n)) X := by
  unfold strL
  rw [run_slice_string_from_if (P := Try.prog) X _ _ _ _ Try.underlying9, if_pos ⟨by omega, by rw [size_str]; omega⟩, extract_str, size_str]
  rw [List.take_of_length_le (by simp)]
  simp
/-- s[a:b] -/
theorem part_str {l : List UInt8} {a b : Nat} (h1 : a ≤ b) (h2 : b ≤ l.length) (X : World) : (Instr.slice 9 (strL l) (some (.int .i64 (a : Int))) (some (.int .i64 (b : Int))) none).run Try.prog X = .ok (strL ((l.drop a).take (b - a))) X := by
  unfold strL
  rw [run_slice_string_if (P := Try.prog) X _ _ _ _ _ _ Try.underlying9, if_pos ⟨by omega, by rw [size_str]; omega⟩, if_pos ⟨by omega, by omega⟩, extract_str]
  simp
theorem at_str {l : List UInt8} {i : Nat} (h : i < l.length) (X : World) : (Instr.index 9 (strL l) (.int .i64 (i : Int))).run Try.prog X = .ok (.int .u8 ((l.getD i 0).toNat : Int)) X := by
  unfold strL
  rw [run_index_string (P := Try.prog) X _ _ _ _ Try.underlying9, dif_pos ⟨by omega, by rw [size_str]; omega⟩]
  rw [List.getD_eq_getElem?_getD, List.getElem?_eq_getElem h]
  simp [ByteArray.getElem_eq_getElem_data]
theorem eql_str (T : TypeId) (a b : List UInt8) : binOp .eql T (strL a) (strL b) = pure (.bool (decide (a = b))) := by
  unfold strL
  rw [binOp_string_eql, ByteArray.toList_mk, ByteArray.toList_mk]
  congr 2
  by_cases h : a = b <;> simp [h]
theorem neq_str (T : TypeId) (a b : List UInt8) : binOp .neq T (strL a) (strL b) = pure (.bool (!decide (a = b))) := by
  unfold strL
  rw [binOp_string_neq, ByteArray.toList_mk, ByteArray.toList_mk]
  congr 3
  by_cases h : a = b <;> simp [h]
theorem lss_str (T : TypeId) (a b : List UInt8) : binOp .lss T (strL a) (strL b) = pure (.bool (Op.bytesLess a b)) := by
  unfold strL
  rw [binOp_string_lss, ByteArray.toList_mk, ByteArray.toList_mk]
theorem store_str {P : Program} (l : List UInt8) (a : Addr) (m : Mode) (w : World) : (store a (strL l) m).run P w = stored P w a (strL l) m := run_store P w a _ m rfl
theorem cells_str (l : List UInt8) : (strL l).cells = #[strL l] := rfl
theorem guard_str (op : BinOp) (x y : Operand) (a b : List UInt8) (w : World) : (eqGuard op 9 x y (strL a) (strL b)).run Try.prog w = .ok () w := by
  unfold strL eqGuard
  simp [go_sem]
end Go.Proofs.Ytiifmakhfpllnaa
