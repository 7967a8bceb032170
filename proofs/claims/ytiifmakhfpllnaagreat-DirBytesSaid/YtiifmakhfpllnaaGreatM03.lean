/-
  Rows of truths, rows of calls (three numbers each), as lists; an append of a whole row. No program in sight.
-/
import Derived.Test.YtiifmakhfpllnaaGreatM00
import Derived.Laws.AppendOwnNone
namespace Go.Proofs.YtiifmakhfpllnaaGreat
open Go.RowKit

abbrev boolC (b : Bool) : List Value := [.bool b]
abbrev SlB := SlF boolC
theorem bool_one {b : Bool} : ∀ u ∈ boolC b, u.oneCell' = true := by
  intro u hu
  simp at hu
  subst hu
  rfl
theorem flatB_length (l : List Bool) : (l.flatMap boolC).length = l.length := by induction l <;> simp_all
theorem flatB_at (l : List Bool) (i : Nat) : (l.flatMap boolC)[i]? = (l[i]?).map Value.bool := by
  have := flat_at boolC 1 (fun _ => rfl) l i 0 (by omega)
  simp only [Nat.mul_one, Nat.add_zero] at this
  rw [this]
  cases l[i]? <;> rfl
theorem flatB_set (l : List Bool) (i : Nat) (b : Bool) : (l.set i b).flatMap boolC = (l.flatMap boolC).set i (.bool b) := by
  apply List.ext_getElem?
  intro k
  rw [flatB_at, List.getElem?_set, List.getElem?_set, flatB_length, flatB_at]
  by_cases h : i = k
  · subst h
    simp only [if_true]
    split <;> rfl
  · rw [if_neg h, if_neg h]
/-- truth i of a row -/
theorem SlB.at {w : World} {a : Option Addr} {cap n : Nat} {l : List Bool} (h : SlB w (.slice a n cap) l) {i : Nat} (hi : i < l.length) : ∃ b off, a = some ⟨b, off, none⟩ ∧ b < w.heap.size ∧
    w.cell? ⟨b, off + i, none⟩ = some (.bool (l.getD i false)) := by
  obtain ⟨a', cap', hv, _, _, hc⟩ := h.open
  cases hv
  obtain ⟨b, off, rfl, hb, hc⟩ := hc 1 (fun _ => rfl) (by omega) i _ (getD_some false hi)
  have := hc 0 _ rfl
  rw [Nat.mul_one, Nat.add_zero] at this
  exact ⟨b, off, rfl, hb, this⟩
abbrev Op3 := Int × Int × Int
abbrev op3C (o : Op3) : List Value := [.int .i64 o.1, .int .i64 o.2.1, .int .i64 o.2.2]
abbrev SlP := SlF op3C
def wf3 (o : Op3) : Prop := (-9223372036854775808 ≤ o.1 ∧ o.1 ≤ 9223372036854775807) ∧ (-9223372036854775808 ≤ o.2.1 ∧ o.2.1 ≤ 9223372036854775807) ∧ (-9223372036854775808 ≤ o.2.2 ∧ o.2.2 ≤ 9223372036854775807)
def z3 : Op3 := (0, 0, 0)
theorem SlP.at {w : World} {a : Option Addr} {cap n : Nat} {l : List Op3} (h : SlP w (.slice a n cap) l) {i : Nat} (hi : i < l.length) : ∃ b off, a = some ⟨b, off, none⟩ ∧ b < w.heap.size ∧
    w.cell? ⟨b, off + i * 3, none⟩ = some (.int .i64 (l.getD i z3).1) ∧ w.cell? ⟨b, off + i * 3 + 1, none⟩ = some (.int .i64 (l.getD i z3).2.1) ∧ w.cell? ⟨b, off + i * 3 + 2, none⟩ = some (.int .i64 (l.getD i z3).2.2) := by
  obtain ⟨a', cap', hv, _, _, hc⟩ := h.open
  cases hv
  obtain ⟨b, off, rfl, hb, hc⟩ := hc 3 (fun _ => rfl) (by omega) i _ (getD_some z3 hi)
  exact ⟨b, off, rfl, hb, hc 0 _ rfl, hc 1 _ rfl, hc 2 _ rfl⟩
/-- a slice without an address has no room -/
def okV (v : Value) : Prop := ∀ n cap, v = .slice none n cap → cap = 0
theorem okV.of_owns {w : World} {base : Nat} {e : TypeId} {size : Nat} {v : Value} {n : Nat} {xs : List Value} (h : w.ownsRow base e size v n xs) : okV v := by
  intro m cap hv
  rcases h.2 with ⟨h1, _⟩ | ⟨g, cap', cur, h1, _⟩
  · rw [h1] at hv; cases hv; rfl
  · rw [h1] at hv; cases hv
/-- 'out = append(out, l...)', out the call's own slice -/
theorem wpList_append_sl {P : Program} (T E : TypeId) (z : Value) (size bytes : Nat) (ht : P.underlying T = some (.slice E)) (hinfo : (P.info? E).map (fun i => (i.zero, i.size, i.bytes)) = some (some z, size, bytes))
    (hzs : z.cells.size = size) (hsz : 0 < size) (hby : bytes ≤ 4096) {ops : Array Oper} {rest : List Oper} {o : Oper} {a : Act} {Q : Exit → Act → World → Prop} {w : World} (hgd : o.guard = none) (s x : Operand)
    (ho : o.op = .call { callee := .builtin .append, args := #[s, x], argTypes := #[T, T] }) (base : Nat) (v : Value) (n : Nat) (xs : List Value) (hs : a.eval s = v) (hown : w.ownsRow base E size v n xs)
    (u : Value) (m : Nat) (news : List Value) (hu : Sl w u m news) (hok : okV u) (hl : news.length = m * size) (h1 : ∀ y ∈ news, y.oneCell' = true) (hx : a.eval x = u) (hn : n ≤ 4294967296) (hm : m ≤ 4294967296) (hbase : base ≤ w.heap.size)
    (h : ∀ v' w', w'.ownsRow base E size v' (n + m) (xs ++ news) → w.grownBy w' v.ownBlock → wpList P ops Q rest (a.put o.dst v') w') : wpList P ops Q (o :: rest) a w := by
  obtain ⟨i0, hi, hz0, hz1, hz2⟩ := info_parts hinfo
  obtain ⟨ad, cap, rfl, hmc, hcm, hc⟩ := hu
  cases ad with
  | none =>
    have hcap := hok _ _ rfl
    subst hcap
    have hm0 : m = 0 := by omega
    subst hm0
    have hnews : news = [] := List.eq_nil_of_length_eq_zero (by rw [hl, Nat.zero_mul])
    subst hnews
    refine wpList_append_own_none hgd s x T ho base E i0 size ht hi v n xs hs hown hx (h v w (by rw [List.append_nil]; exact hown) ⟨rfl, rfl, rfl, Nat.le_refl _, fun _ _ _ => rfl⟩)
  | some ad =>
    refine wpList_append_own w hgd s x T ho base E i0 z size bytes ht hi hz0 hz1 hz2 hzs hsz v n xs hs hown ad m cap news hx hl (fun j y hy => ?_) h1 (by unfold maxLen; omega) ?_ hbase (fun v' w' g1 g2 _ => h v' w' g1 g2)
    · rcases hc with he | ⟨b, off, hab, hb, hc⟩
      · rw [he] at hy; cases hy
      · cases hab
        have hadd : (⟨b, off, none⟩ : Addr).add j = ⟨b, off + j, none⟩ := by unfold Addr.add; split <;> simp_all
        rw [hadd]
        exact hc j y hy
    · have : (n + m) * bytes ≤ 8589934592 * 4096 := Nat.mul_le_mul (by omega) hby
      omega
end Go.Proofs.YtiifmakhfpllnaaGreat
