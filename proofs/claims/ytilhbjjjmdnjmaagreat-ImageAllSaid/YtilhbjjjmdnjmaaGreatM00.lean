/-
  What lies in memory, said once: 'Fr L w w'' (nothing that was there has turned, but for the blocks of the list L), slices that are read ('Sl'), slices that are owned (the library's 'ownsRow'), maps keyed by whatever has the library's 'Keyed'. No program in sight.
-/
import Derived.WalkKit
import Derived.WalkLawsBesides
import Derived.WalkSpells
import Derived.KernelRfl
import Derived.Maps.Keyed
import Derived.Maps.AppendAt
import Derived.Deep.Draws
import Derived.StillTailTactics
namespace Go.Proofs.YtilhbjjjmdnjmaaGreat
open Go.RowKit

/-- Nothing that was in w has turned in w', but for the blocks of L; no block has gone. -/
structure Fr (L : List Nat) (w w' : World) : Prop where
  os : w'.os = w.os
  tape : w'.tape = w.tape
  output : w'.output = w.output
  size : w.heap.size ≤ w'.heap.size
  block : ∀ k, k < w.heap.size → k ∉ L → w'.heap[k]? = w.heap[k]?

theorem Fr.refl (L : List Nat) (w : World) : Fr L w w := ⟨rfl, rfl, rfl, Nat.le_refl _, fun _ _ _ => rfl⟩
/-- two steps: what the second one may turn is of L, or was not there at first -/
theorem Fr.trans {L M : List Nat} {a b c : World} (h : Fr L a b) (k : Fr M b c) (hM : ∀ x, x ∈ M → x < a.heap.size → x ∈ L) : Fr L a c :=
  ⟨k.os.trans h.os, k.tape.trans h.tape, k.output.trans h.output, Nat.le_trans h.size k.size,
   fun i hi hn => (k.block i (Nat.lt_of_lt_of_le hi h.size) (fun hm => hn (hM i hm hi))).trans (h.block i hi hn)⟩
theorem Fr.trans0 {L : List Nat} {a b c : World} (h : Fr L a b) (k : Fr [] b c) : Fr L a c := h.trans k (fun _ h => by cases h)
theorem Fr.trans' {L : List Nat} {a b c : World} (h : Fr L a b) (k : Fr L b c) : Fr L a c := h.trans k (fun _ h _ => h)
theorem Fr.mono {L M : List Nat} {a b : World} (h : Fr L a b) (hs : ∀ x, x ∈ L → x < a.heap.size → x ∈ M) : Fr M a b :=
  ⟨h.os, h.tape, h.output, h.size, fun k hk hn => h.block k hk (fun hm => hn (hs k hm hk))⟩
theorem Fr.weak {L : List Nat} {a b : World} (h : Fr [] a b) : Fr L a b := h.mono (fun _ h => by cases h)
theorem Fr.drew {L : List Nat} {a w : World} (h : Fr L a w) : Fr L a w.drew := ⟨h.os, h.tape, h.output, h.size, h.block⟩
theorem Fr.drewN {L : List Nat} {a w : World} (h : Fr L a w) (n : Nat) : Fr L a (w.drewN n) := ⟨h.os, h.tape, h.output, h.size, h.block⟩
theorem Fr.alloc {L : List Nat} {a w : World} (h : Fr L a w) (o : Obj) : Fr L a (w.alloc o) :=
  ⟨h.os, h.tape, h.output, by have := h.size; simp; omega, fun k hk hn => (Below.heap_alloc _ _ _ (Nat.lt_of_lt_of_le hk h.size)).trans (h.block k hk hn)⟩
theorem Fr.setCell {L : List Nat} {a w : World} (h : Fr L a w) {p : Addr} (hp : p.block ∈ L ∨ a.heap.size ≤ p.block) (u : Value) : Fr L a (w.setCell p u) :=
  ⟨h.os, h.tape, h.output, by have := h.size; simpa [World.setCell] using this, fun k hk hn => (Below.heap_setCell _ _ _ _ (fun e => by subst e; rcases hp with hp | hp; exact hn hp; omega)).trans (h.block k hk hn)⟩
theorem Fr.grown {L : List Nat} {a w w' : World} {row : Option Nat} (h : Fr L a w) (hg : w.grownBy w' row) (hr : ∀ k, row = some k → k ∈ L ∨ a.heap.size ≤ k) : Fr L a w' :=
  ⟨hg.os.trans h.os, hg.tape.trans h.tape, hg.output.trans h.output, Nat.le_trans h.size hg.size,
   fun k hk hn => (hg.block k (Nat.lt_of_lt_of_le hk h.size) (fun e => by rcases hr k e.symm with h1 | h1; exact hn h1; omega)).trans (h.block k hk hn)⟩
theorem Fr.of_grown {w w' : World} {row : Option Nat} (hg : w.grownBy w' row) : Fr row.toList w w' :=
  ⟨hg.os, hg.tape, hg.output, hg.size, fun k hk hn => hg.block k hk (fun e => hn (by rw [← e]; simp))⟩
theorem Fr.trans1 {L : List Nat} {a b c : World} {x : Nat} (h : Fr L a b) (k : Fr [x] b c) (hx : a.heap.size ≤ x) : Fr L a c :=
  h.trans k (fun y hy hl => by rw [List.mem_singleton] at hy; omega)
theorem Fr.set1 (w : World) (b : Nat) (v0 : Value) : Fr [b] w (w.setCell ⟨b, 0, none⟩ v0) := (Fr.refl _ w).setCell (.inl (by simp)) _
theorem Fr.set2 (w : World) (b : Nat) (v0 v1 : Value) : Fr [b] w ((w.setCell ⟨b, 0, none⟩ v0).setCell ⟨b, 1, none⟩ v1) := (Fr.set1 w b v0).setCell (.inl (by simp)) _
theorem Fr.set3 (w : World) (b : Nat) (v0 v1 v2 : Value) : Fr [b] w (((w.setCell ⟨b, 0, none⟩ v0).setCell ⟨b, 1, none⟩ v1).setCell ⟨b, 2, none⟩ v2) := (Fr.set2 w b v0 v1).setCell (.inl (by simp)) _
theorem Fr.set3' (w : World) (b o0 o1 o2 : Nat) (v0 v1 v2 : Value) : Fr [b] w (((w.setCell ⟨b, o0, none⟩ v0).setCell ⟨b, o1, none⟩ v1).setCell ⟨b, o2, none⟩ v2) :=
  (((Fr.refl _ w).setCell (.inl (by simp)) _).setCell (.inl (by simp)) _).setCell (.inl (by simp)) _
theorem Fr.below {L : List Nat} {a w : World} (h : Fr L a w) {B : Nat} (hB : B ≤ a.heap.size) (hL : ∀ x, x ∈ L → B ≤ x) : Below B a w :=
  ⟨h.os, h.tape, h.output, h.size, fun k hk => h.block k (by omega) (fun hm => by have := hL k hm; omega)⟩
theorem Fr.of_below {a w : World} (h : Below a.heap.size a w) : Fr [] a w := ⟨h.os, h.tape, h.output, h.size, fun k hk _ => h.block k hk⟩
theorem Fr.toBelow {a w : World} (h : Fr [] a w) : Below a.heap.size a w := h.below (Nat.le_refl _) (fun _ h => by cases h)
/-- the two rules by which a walk reads old cells in the new world -/
theorem Fr.rules {L : List Nat} {a w : World} (h : Fr L a w) :
    (∀ b o, b < a.heap.size → b ∉ L → w.cell? ⟨b, o, none⟩ = a.cell? ⟨b, o, none⟩) ∧ (∀ b o, b < a.heap.size → b ∉ L → w.frozen? ⟨b, o, none⟩ = a.frozen? ⟨b, o, none⟩) :=
  ⟨fun b _ hb hn => World.cell?_of_block (h.block b hb hn), fun b _ hb hn => World.frozen?_of_block (h.block b hb hn)⟩
theorem Fr.rules0 {a w : World} (h : Fr [] a w) :
    (∀ b o, b < a.heap.size → w.cell? ⟨b, o, none⟩ = a.cell? ⟨b, o, none⟩) ∧ (∀ b o, b < a.heap.size → w.frozen? ⟨b, o, none⟩ = a.frozen? ⟨b, o, none⟩) :=
  ⟨fun b _ hb => World.cell?_of_block (h.block b hb (by simp)), fun b _ hb => World.frozen?_of_block (h.block b hb (by simp))⟩
theorem Fr.frame {W w' : World} (h : Fr [] W w') (may : MemPlace → Prop) : W.keptBut w' may := h.toBelow.frame may

/-! ### a block of known cells -/
/-- Block b holds just these cells, none of them frozen. -/
def Blk (w : World) (b : Nat) (cs : List Value) (t : TypeId) : Prop := w.heap[b]? = some (.cells cs.toArray t (0, 0))
theorem Blk.lt {w : World} {b : Nat} {cs : List Value} {t : TypeId} (h : Blk w b cs t) : b < w.heap.size := (Array.getElem?_eq_some_iff.1 h).1
theorem Blk.fr {L : List Nat} {w w' : World} {b : Nat} {cs : List Value} {t : TypeId} (h : Blk w b cs t) (hf : Fr L w w') (hn : b ∉ L) : Blk w' b cs t := (hf.block b h.lt hn).trans h
theorem Blk.cell {w : World} {b : Nat} {cs : List Value} {t : TypeId} (h : Blk w b cs t) (o : Nat) : w.cell? ⟨b, o, none⟩ = cs[o]? := by
  rw [cell_of_row w b o _ t _ h]; simp
theorem Blk.frozen {w : World} {b : Nat} {cs : List Value} {t : TypeId} (h : Blk w b cs t) (o : Nat) : w.frozen? ⟨b, o, none⟩ = false := frozen_of_row w b o _ t h
theorem Blk.new (w : World) (cs : List Value) (t : TypeId) : Blk (w.alloc (.cells cs.toArray t)) w.heap.size cs t := heap_alloc_new w _
theorem Blk.new' {w : World} {n : Nat} (hn : n = w.heap.size) (cs : List Value) (t : TypeId) : Blk (w.alloc (.cells cs.toArray t)) n cs t := by subst hn; exact Blk.new w cs t
theorem Blk.fr0 {w w' : World} {b : Nat} {cs : List Value} {t : TypeId} (h : Blk w b cs t) (hf : Fr [] w w') : Blk w' b cs t := h.fr hf (by simp)
theorem Blk.alloc {w : World} {b : Nat} {cs : List Value} {t : TypeId} (h : Blk w b cs t) (o : Obj) : Blk (w.alloc o) b cs t := (Below.heap_alloc w o b h.lt).trans h
theorem Blk.drew {w : World} {b : Nat} {cs : List Value} {t : TypeId} (h : Blk w b cs t) : Blk w.drew b cs t := h
theorem Blk.drewN {w : World} {b : Nat} {cs : List Value} {t : TypeId} (h : Blk w b cs t) (n : Nat) : Blk (w.drewN n) b cs t := h
theorem Blk.setCell {w : World} {b : Nat} {cs : List Value} {t : TypeId} (h : Blk w b cs t) (o : Nat) (v : Value) : Blk (w.setCell ⟨b, o, none⟩ v) b (cs.set o v) t := by
  have := heap_setCell_same w b o _ t v h
  unfold Blk
  rw [this]
  simp
theorem Blk.other {w : World} {b : Nat} {cs : List Value} {t : TypeId} (h : Blk w b cs t) {p : Addr} (hp : b ≠ p.block) (v : Value) : Blk (w.setCell p v) b cs t :=
  (Below.heap_setCell _ _ _ _ hp).trans h

/-! ### slices that are read -/
/-- From the address a on lie the cells xs (none of them: whatever a is). -/
def SlC (w : World) (a : Option Addr) (xs : List Value) : Prop :=
  xs = [] ∨ ∃ b off, a = some ⟨b, off, none⟩ ∧ b < w.heap.size ∧ ∀ j u, xs[j]? = some u → w.cell? ⟨b, off + j, none⟩ = some u
/-- v is a slice of n elements, whose cells are xs. -/
def Sl (w : World) (v : Value) (n : Nat) (xs : List Value) : Prop := ∃ a cap, v = .slice a n cap ∧ n ≤ cap ∧ cap ≤ maxLen ∧ SlC w a xs
theorem Sl.le {w : World} {v : Value} {n : Nat} {xs : List Value} (h : Sl w v n xs) : n ≤ maxLen := by
  obtain ⟨a, cap, _, h1, h2, _⟩ := h; omega
theorem SlC.fr {L : List Nat} {w w' : World} {a : Option Addr} {xs : List Value} (h : SlC w a xs) (hf : Fr L w w') (hn : ∀ p, a = some p → p.block ∉ L) : SlC w' a xs := by
  rcases h with h | ⟨b, off, rfl, hb, hc⟩
  · exact .inl h
  · have hnl := hn _ rfl
    exact .inr ⟨b, off, rfl, Nat.lt_of_lt_of_le hb hf.size, fun j u hu => (World.cell?_of_block (hf.block b hb hnl)).trans (hc j u hu)⟩
theorem Sl.fr {L : List Nat} {w w' : World} {v : Value} {n : Nat} {xs : List Value} (h : Sl w v n xs) (hf : Fr L w w') (hn : ∀ k, v.ownBlock = some k → k ∉ L) : Sl w' v n xs := by
  obtain ⟨a, cap, rfl, h1, h2, hc⟩ := h
  exact ⟨a, cap, rfl, h1, h2, hc.fr hf (fun p hp => hn p.block (by simp [Value.ownBlock, hp]))⟩
theorem Sl.fr0 {w w' : World} {v : Value} {n : Nat} {xs : List Value} (h : Sl w v n xs) (hf : Fr [] w w') : Sl w' v n xs := h.fr hf (by simp)
theorem Sl.nil (w : World) : Sl w (.slice none 0 0) 0 [] := ⟨none, 0, rfl, Nat.le_refl _, Nat.zero_le _, .inl rfl⟩
theorem Sl.of_owns {w : World} {base : Nat} {e : TypeId} {size : Nat} {v : Value} {n : Nat} {xs : List Value} (h : w.ownsRow base e size v n xs) : Sl w v n xs := by
  rcases h.2 with ⟨rfl, rfl⟩ | ⟨g, cap, cur, rfl, _, hg, hn, hm, hcs, ht⟩
  · have : xs = [] := List.eq_nil_of_length_eq_zero (by simpa using h.1)
    subst this
    exact Sl.nil w
  · refine ⟨_, cap, rfl, hn, hm, .inr ⟨g, 0, rfl, (Array.getElem?_eq_some_iff.1 hg).1, fun j u hu => ?_⟩⟩
    rw [Nat.zero_add, cell_of_row w g j _ e _ hg]
    rw [← ht, List.getElem?_take] at hu
    split at hu
    · simpa using hu
    · cases hu
/-- what lies below the owned rows' base is none of them -/
theorem own_notin {w : World} {base : Nat} {e : TypeId} {size : Nat} {v : Value} {n : Nat} {xs : List Value} (h : w.ownsRow base e size v n xs) {x : Nat} (hx : x < base) : x ∉ v.ownBlock.toList := by
  intro hm
  have := (h.lt x (by simpa using hm)).1
  omega
theorem own_base {w : World} {base : Nat} {e : TypeId} {size : Nat} {v : Value} {n : Nat} {xs : List Value} (h : w.ownsRow base e size v n xs) : ∀ k, v.ownBlock = some k → base ≤ k := fun k hk => (h.lt k hk).1
/-- the owned row is kept -/
theorem owns_fr {L : List Nat} {w w' : World} {base : Nat} {e : TypeId} {size : Nat} {v : Value} {n : Nat} {xs : List Value} (h : w.ownsRow base e size v n xs) (hf : Fr L w w') (hn : ∀ k, v.ownBlock = some k → k ∉ L) : w'.ownsRow base e size v n xs := by
  refine ⟨h.1, ?_⟩
  rcases h.2 with h2 | ⟨g, cap, cur, hv, hb, hg, r⟩
  · exact .inl h2
  · exact .inr ⟨g, cap, cur, hv, hb, (hf.block g (Array.getElem?_eq_some_iff.1 hg).1 (hn g (by simp [hv, Value.ownBlock]))).trans hg, r⟩
theorem owns_setCell {w : World} {base : Nat} {e : TypeId} {size : Nat} {v : Value} {n : Nat} {xs : List Value} (h : w.ownsRow base e size v n xs) {a : Addr} (ha : a.block < base) (u : Value) : (w.setCell a u).ownsRow base e size v n xs :=
  ownsRow_setCell_below h ha u
theorem owns_drew {w : World} {base : Nat} {e : TypeId} {size : Nat} {v : Value} {n : Nat} {xs : List Value} (h : w.ownsRow base e size v n xs) : w.drew.ownsRow base e size v n xs := h
theorem owns_drewN {w : World} {base : Nat} {e : TypeId} {size : Nat} {v : Value} {n : Nat} {xs : List Value} (h : w.ownsRow base e size v n xs) (k : Nat) : (w.drewN k).ownsRow base e size v n xs := h
theorem Sl.drew {w : World} {v : Value} {n : Nat} {xs : List Value} (h : Sl w v n xs) : Sl w.drew v n xs := h
theorem Sl.drewN {w : World} {v : Value} {n : Nat} {xs : List Value} (h : Sl w v n xs) (k : Nat) : Sl (w.drewN k) v n xs := h
theorem owns_base {w : World} {base base' : Nat} {e : TypeId} {size : Nat} {v : Value} {n : Nat} {xs : List Value} (h : w.ownsRow base e size v n xs) (hb : base' ≤ base) : w.ownsRow base' e size v n xs := by
  refine ⟨h.1, ?_⟩
  rcases h.2 with h2 | ⟨g, cap, cur, hv, hbb, r⟩
  · exact .inl h2
  · exact .inr ⟨g, cap, cur, hv, Nat.le_trans hb hbb, r⟩
/-- the cells of a block that has just been laid -/
theorem cells_new {W : World} {n : Nat} (hn : n = W.heap.size) (cs : List Value) (E : TypeId) : ∀ j u, cs[j]? = some u → (W.alloc (.cells cs.toArray E)).cell? ((⟨n, 0, none⟩ : Addr).add j) = some u := by
  subst hn
  intro j u hu
  have hadd : (⟨W.heap.size, 0, none⟩ : Addr).add j = ⟨W.heap.size, j, none⟩ := by unfold Addr.add; split <;> simp_all
  rw [hadd, (Blk.new W cs E).cell j]
  exact hu
/-- 'out = append(out, x)', x one element in a block of its own; out the call's own slice -/
theorem wpList_append1 {P : Program} (T E : TypeId) (z : Value) (size bytes : Nat) (ht : P.underlying T = some (.slice E)) (hinfo : (P.info? E).map (fun i => (i.zero, i.size, i.bytes)) = some (some z, size, bytes))
    (hzs : z.cells.size = size) (hsz : 0 < size) (hby : bytes ≤ 4096) {ops : Array Oper} {rest : List Oper} {o : Oper} {a : Act} {Q : Exit → Act → World → Prop} {w : World} (hgd : o.guard = none) (s x : Operand)
    (ho : o.op = .call { callee := .builtin .append, args := #[s, x], argTypes := #[T, T] }) (base : Nat) (v : Value) (n : Nat) (xs : List Value) (hs : a.eval s = v) (hown : w.ownsRow base E size v n xs)
    (cs : List Value) (hcs : cs.length = size) (h1 : ∀ u ∈ cs, u.oneCell' = true) (nb : Nat) (hx : a.eval x = .slice (some ⟨nb, 0, none⟩) 1 1) {tb : TypeId} (hB : Blk w nb cs tb) (hn : n ≤ 4294967296) (hbase : base ≤ w.heap.size)
    (h : ∀ v' w', w'.ownsRow base E size v' (n + 1) (xs ++ cs) → w.grownBy w' v.ownBlock → (v'.ownBlock = v.ownBlock ∨ v'.ownBlock = some w.heap.size) → wpList P ops Q rest (a.put o.dst v') w') : wpList P ops Q (o :: rest) a w := by
  obtain ⟨i0, hi, hz0, hz1, hz2⟩ := info_parts hinfo
  refine wpList_append_own_at w hgd s x T ho base E i0 z size bytes ht hi hz0 hz1 hz2 hzs hsz v n xs hs hown ⟨nb, 0, none⟩ 1 1 cs hx (by omega) (fun j u hu => ?_) h1 (by unfold maxLen; omega) ?_ hbase (fun v' w' g1 g2 _ g4 => h v' w' g1 g2 g4)
  · have hadd : (⟨nb, 0, none⟩ : Addr).add j = ⟨nb, j, none⟩ := by unfold Addr.add; split <;> simp_all
    rw [hadd, hB.cell j]
    exact hu
  · have : (n + 1) * bytes ≤ 4294967297 * 4096 := Nat.mul_le_mul (by omega) hby
    omega
/-- an operation whose run is known -/
theorem wpList_run {P : Program} {ops : Array Oper} {rest : List Oper} {o : Oper} {a : Act} {Q : Exit → Act → World → Prop} {w w' : World} {v : Value} (hgd : o.guard = none) (hr : (execOp a.eval o).run P w = .ok (.value v) w')
    (h : wpList P ops Q rest (a.put o.dst v) w') : wpList P ops Q (o :: rest) a w :=
  wpList_plain hgd fun K hK => by
    unfold Oper.wp
    rw [hr]
    exact hK _ _ h
theorem wpList_field {P : Program} (T i : Nat) {ops : Array Oper} {rest : List Oper} {o : Oper} {a : Act} {Q : Exit → Act → World → Prop} {w : World} (hgd : o.guard = none) (x : Operand) (ho : o.op = .field T x i) (v : Value) (hx : a.eval x = v) {u : Value}
    (hr : ∀ w, (Instr.field T v i).run P w = .ok u w) (h : wpList P ops Q rest (a.put o.dst u) w) : wpList P ops Q (o :: rest) a w :=
  wpList_plain hgd fun K hK => by
    unfold Oper.wp execOp
    simp only [ho, hx, Sem.run_bind, hr, Result.andThen_ok, Sem.run_pure]
    exact hK _ _ h
/-! ### a region that draws its order: an operation that leaves the world alone -/
theorem wpStill_value {P : Program} {ops : Array Oper} {w : World} {Q : Act → Prop} {a : Act} {o : Oper} {rest : List Oper} (hg : o.guard = none) (v : Value) (hr : (execOp a.eval o).run P w = .ok (.value v) w)
    (h : wpStill P ops w Q rest (a.put o.dst v)) : wpStill P ops w Q (o :: rest) a :=
  wpStill_step fun K hK => by
    simp only [Region.wanted, hg, if_true, Oper.still, hr, Oper.stillUpon_value]
    exact hK _ h
/-! ### small ones for a walk's end -/
theorem hidIt {p : Prop} (h : p) : Hid p := h
theorem ret_bool {a b : Bool} (h : a = b) : Ending.returned (.bool a) = Ending.returned (.bool b) := by rw [h]
theorem ret_int {k : IntKind} {a b : Int} (h : a = b) : Ending.returned (.int k a) = Ending.returned (.int k b) := by rw [h]
theorem ret_val {a b : Value} (h : a = b) : Ending.returned a = Ending.returned b := by rw [h]
end Go.Proofs.YtilhbjjjmdnjmaaGreat

namespace Go.Proofs.YtilhbjjjmdnjmaaGreat
open Go.RowKit

/-- a slot: Kind, Host, Own -/
abbrev Slt := Int × Int × Bool
def zS : Slt := (0, 0, false)
def rightS (s : Slt) : Bool := if s.1 = 1 then decide (0 ≤ s.2.1) && decide (s.2.1 < 512) else (decide (s.1 = 0) || decide (s.1 = 2)) && decide (s.2.1 = 0) && !s.2.2
theorem rightS_zS : rightS zS = true := rfl
theorem right_hole {s : Slt} (h : rightS s = true) (h0 : s.1 = 0) : s = zS := by
  obtain ⟨a, b, c⟩ := s
  simp only at h0
  subst h0
  simp [rightS] at h
  simp [zS, h.1, h.2]
abbrev slotC (s : Slt) : List Value := [.int .i64 s.1, .int .i64 s.2.1, .bool s.2.2]
abbrev slotV (s : Slt) : Value := .agg #[.int .i64 s.1, .int .i64 s.2.1, .bool s.2.2]
def sEq (a b : Slt) : Bool := decide (a.1 = b.1) && decide (a.2.1 = b.2.1) && (a.2.2 == b.2.2)
theorem sEq_iff (a b : Slt) : sEq a b = true ↔ a = b := by
  obtain ⟨a1, a2, a3⟩ := a; obtain ⟨b1, b2, b3⟩ := b
  simp [sEq, and_assoc]
theorem sEq_self (a : Slt) : sEq a a = true := (sEq_iff a a).2 rfl

/-- the slot of a cluster -/
def tget (l : List Slt) (c : Int) : Slt := if 0 ≤ c then l.getD c.toNat zS else zS
theorem tget_nat (l : List Slt) (n : Nat) : tget l (n : Int) = l.getD n zS := by simp [tget]
theorem tget_out {l : List Slt} {c : Int} (h : c < 0 ∨ (l.length : Int) ≤ c) : tget l c = zS := by
  unfold tget
  split
  · rw [List.getD_eq_getElem?_getD, List.getElem?_eq_none (by omega)]; rfl
  · rfl
theorem right_getD {l : List Slt} (h : ∀ s ∈ l, rightS s = true) (n : Nat) : rightS (l.getD n zS) = true := by
  rw [List.getD_eq_getElem?_getD]
  cases hx : l[n]? with
  | none => rfl
  | some s => exact h s (List.mem_of_getElem? hx)
theorem right_tget {l : List Slt} (h : ∀ s ∈ l, rightS s = true) (c : Int) : rightS (tget l c) = true := by
  unfold tget; split; exact right_getD h _; rfl
def tSet (l : List Slt) (c : Int) (s : Slt) : List Slt × Slt × Int :=
  if 0 ≤ c ∧ c < l.length ∧ rightS s = true then (l.set c.toNat s, tget l c, 0) else (l, zS, 1)
def tResize (l : List Slt) (n : Int) : List Slt × List Slt × Int :=
  if 0 ≤ n ∧ n ≤ 256 then (l.take n.toNat ++ List.replicate (n.toNat - l.length) zS, (l.drop n.toNat).filter (fun s => s.1 != 0), 0) else (l, [], 1)
/-- a call: its kind, its number, its slot -/
abbrev Opr := Int × Int × Slt
abbrev opC (o : Opr) : List Value := [.int .i64 o.1, .int .i64 o.2.1, .int .i64 o.2.2.1, .int .i64 o.2.2.2.1, .bool o.2.2.2.2]
abbrev opV (o : Opr) : Value := .agg #[.int .i64 o.1, .int .i64 o.2.1, .int .i64 o.2.2.1, .int .i64 o.2.2.2.1, .bool o.2.2.2.2]
def tDo (l : List Slt) (o : Opr) : List Slt × List Slt × Int :=
  if o.1 = 0 then ((tSet l o.2.1 o.2.2).1, [(tSet l o.2.1 o.2.2).2.1], (tSet l o.2.1 o.2.2).2.2)
  else if o.1 = 1 then tResize l o.2.1 else (l, [], 0)
theorem tSet_right {l : List Slt} {c : Int} {s : Slt} (h : ∀ s ∈ l, rightS s = true) : ∀ x ∈ (tSet l c s).1, rightS x = true := by
  unfold tSet
  split
  · rename_i hc
    intro x hx
    rcases List.mem_or_eq_of_mem_set hx with hx | rfl
    · exact h x hx
    · exact hc.2.2
  · exact h
theorem tResize_right {l : List Slt} {n : Int} (h : ∀ s ∈ l, rightS s = true) : ∀ x ∈ (tResize l n).1, rightS x = true := by
  unfold tResize
  split
  · intro x hx
    simp only [List.mem_append, List.mem_replicate] at hx
    rcases hx with hx | ⟨_, rfl⟩
    · exact h x (List.mem_of_mem_take hx)
    · rfl
  · exact h
theorem tDo_right {l : List Slt} {o : Opr} (h : ∀ s ∈ l, rightS s = true) : ∀ x ∈ (tDo l o).1, rightS x = true := by
  unfold tDo
  split
  · exact tSet_right h
  · split
    · exact tResize_right h
    · exact h
theorem tSet_len {l : List Slt} {c : Int} {s : Slt} : (tSet l c s).1.length = l.length := by
  unfold tSet; split <;> simp
theorem tResize_len {l : List Slt} {n : Int} (h : 0 ≤ n ∧ n ≤ 256) : (tResize l n).1.length = n.toNat := by
  unfold tResize; rw [if_pos h]; simp; omega
theorem tDo_len {l : List Slt} {o : Opr} (h : l.length ≤ 256) : (tDo l o).1.length ≤ 256 := by
  unfold tDo
  split
  · rw [tSet_len]; exact h
  · split
    · by_cases hn : 0 ≤ o.2.1 ∧ o.2.1 ≤ 256
      · rw [tResize_len hn]; omega
      · unfold tResize; rw [if_neg hn]; exact h
    · exact h

/-! ### groups -/
/-- the group of Holes alone -/
def zG : List Slt := List.replicate 16 zS
theorem zG_length : zG.length = 16 := by simp [zG]
/-- the slots of group k -/
def grp (l : List Slt) (k : Nat) : List Slt := (List.range 16).map fun i => l.getD (16 * k + i) zS
theorem grp_length (l : List Slt) (k : Nat) : (grp l k).length = 16 := by simp [grp]
theorem grp_getD (l : List Slt) (k i : Nat) (h : i < 16) : (grp l k).getD i zS = l.getD (16 * k + i) zS := by
  rw [List.getD_eq_getElem?_getD, List.getElem?_eq_getElem (by rw [grp_length]; exact h)]
  simp [grp]
def keptG (l : List Slt) (k : Nat) : Bool := (grp l k).any fun s => s.1 != 0
def groups (l : List Slt) : Nat := ((List.range 16).filter (keptG l)).length
theorem kept_false {l : List Slt} {k : Nat} (hr : ∀ s ∈ l, rightS s = true) (h : keptG l k = false) : grp l k = zG := by
  rw [zG, List.eq_replicate_iff]
  refine ⟨grp_length l k, fun s hs => ?_⟩
  have h1 : ¬ (s.1 != 0) = true := by
    have := List.any_eq_false.1 h s hs
    exact this
  have h0 : s.1 = 0 := by simpa using h1
  obtain ⟨i, _, rfl⟩ := List.mem_map.1 hs
  exact right_hole (right_getD hr _) h0
theorem kept_iff {l : List Slt} {k : Nat} (hr : ∀ s ∈ l, rightS s = true) : keptG l k = true ↔ grp l k ≠ zG := by
  constructor
  · intro h e
    unfold keptG at h
    rw [e] at h
    simp [zG, zS] at h
  · intro h
    cases hk : keptG l k with
    | true => rfl
    | false => exact absurd (kept_false hr hk) h
theorem getD_set (l : List Slt) (c n : Nat) (s : Slt) (hc : c < l.length) : (l.set c s).getD n zS = if n = c then s else l.getD n zS := by
  rw [List.getD_eq_getElem?_getD, List.getElem?_set, List.getD_eq_getElem?_getD]
  by_cases h : c = n
  · subst h; simp [hc]
  · rw [if_neg h, if_neg (fun e => h e.symm)]
theorem grp_set_same (l : List Slt) (c : Nat) (s : Slt) (hc : c < l.length) : grp (l.set c s) (c / 16) = (grp l (c / 16)).set (c % 16) s := by
  apply List.ext_getElem
  · simp [grp_length]
  · intro i h1 h2
    rw [grp_length] at h1
    rw [List.getElem_set]
    simp only [grp, List.getElem_map, List.getElem_range]
    rw [getD_set _ _ _ _ hc]
    by_cases h : c % 16 = i
    · rw [if_pos (by omega), if_pos h]
    · rw [if_neg (by omega), if_neg h]
theorem grp_set_other (l : List Slt) (c k : Nat) (s : Slt) (hc : c < l.length) (hk : k ≠ c / 16) : grp (l.set c s) k = grp l k := by
  unfold grp
  apply List.map_congr_left
  intro i hi
  rw [List.mem_range] at hi
  rw [getD_set _ _ _ _ hc, if_neg (by omega)]
theorem kept_set_other (l : List Slt) (c k : Nat) (s : Slt) (hc : c < l.length) (hk : k ≠ c / 16) : keptG (l.set c s) k = keptG l k := by
  unfold keptG; rw [grp_set_other l c k s hc hk]
theorem grp_tget {l : List Slt} {c : Int} (h0 : 0 ≤ c) : (grp l (c / 16).toNat).getD (c % 16).toNat zS = tget l c := by
  rw [grp_getD _ _ _ (by omega), tget, if_pos h0]
  congr 1
  omega
end Go.Proofs.YtilhbjjjmdnjmaaGreat

namespace Go.Proofs.YtilhbjjjmdnjmaaGreat

/-- what a name may be -/
def okSign (x : UInt8) : Bool := (decide (97 ≤ x.toNat) && decide (x.toNat ≤ 122)) || (decide (48 ≤ x.toNat) && decide (x.toNat ≤ 57)) || decide (x.toNat = 46) || decide (x.toNat = 45)
def okName (s : List UInt8) : Bool := s.all okSign && decide (1 ≤ s.length) && decide (s.length ≤ 15)
theorem okName_len {s : List UInt8} (h : okName s = true) : s.length ≤ 15 := by
  unfold okName at h
  simp at h
  exact h.2
end Go.Proofs.YtilhbjjjmdnjmaaGreat

namespace Go.Proofs.YtilhbjjjmdnjmaaGreat
open Go.RowKit

abbrev By := List UInt8
structure Img where
  B : Nat
  t : List Slt
  n : List Nat
  d : Nat → Option By
  s : List (By × List Slt)
def hst (s : Slt) : Nat := s.2.1.toNat
def isH (h : Nat) (s : Slt) : Bool := decide (s.1 = 1) && decide (hst s = h)
/-- how many slots have a host -/
def cntT (l : List Slt) (h : Nat) : Nat := l.countP (isH h)
def cntS (s : List (By × List Slt)) (h : Nat) : Nat := (s.map fun p => cntT p.2 h).sum
def refs (M : Img) (h : Nat) : Nat := cntT M.t h + cntS M.s h
def zBy (n : Nat) : By := List.replicate n 0
def Img.z (M : Img) : Nat := 16 * 2 ^ M.B
def ng (M : Img) (h : Nat) : Nat := M.n.getD h 0
/-- the content of a slot, Holes being 0 -/
def conS (M : Img) (s : Slt) : By := if s.1 = 1 then (M.d (hst s)).getD [] else zBy M.z
def conC (M : Img) (c : Nat) : By := conS M (M.t.getD c zS)
def fr1 (n : List Nat) : Nat := n.findIdx fun x => decide (x = 0)
def freeN (n : List Nat) : Nat := n.countP fun x => decide (x = 0)

/-! ### counting -/
theorem cntT_set {l : List Slt} {c : Nat} (hc : c < l.length) (s : Slt) (h : Nat) : cntT (l.set c s) h + (if isH h (l.getD c zS) = true then 1 else 0) = cntT l h + (if isH h s = true then 1 else 0) := by
  unfold cntT
  rw [List.countP_set hc]
  have hg : l.getD c zS = l[c] := by rw [List.getD_eq_getElem?_getD, List.getElem?_eq_getElem hc]; rfl
  rw [hg]
  have hpos : isH h l[c] = true → 0 < l.countP (isH h) := fun hp => List.countP_pos_iff.2 ⟨_, List.getElem_mem hc, hp⟩
  by_cases h1 : isH h l[c] = true
  · have := hpos h1
    rw [if_pos h1]
    omega
  · rw [if_neg h1]
    omega
theorem cntT_pos {l : List Slt} {h : Nat} : 0 < cntT l h ↔ ∃ s ∈ l, s.1 = 1 ∧ hst s = h := by
  unfold cntT
  rw [List.countP_pos_iff]
  simp [isH]
theorem getD_memS {l : List Slt} {c : Nat} (hc : c < l.length) : l.getD c zS ∈ l := by
  rw [List.getD_eq_getElem?_getD, List.getElem?_eq_getElem hc]; exact List.getElem_mem hc
theorem isH_iff {h : Nat} {s : Slt} : isH h s = true ↔ s.1 = 1 ∧ hst s = h := by simp [isH]
theorem isH_ne {h : Nat} {s : Slt} (h1 : s.1 ≠ 1) : isH h s = false := by simp [isH, h1]
theorem cntS_pos {s : List (By × List Slt)} {h : Nat} : 0 < cntS s h ↔ ∃ p ∈ s, 0 < cntT p.2 h := by
  unfold cntS
  induction s with
  | nil => simp
  | cons p l ih =>
    simp only [List.map_cons, List.sum_cons, List.mem_cons, exists_eq_or_imp]
    rw [← ih]
    omega
theorem getD_setN (l : List Nat) (k h x : Nat) (hk : k < l.length) : (l.set k x).getD h 0 = if h = k then x else l.getD h 0 := by
  simp only [List.getD_eq_getElem?_getD, List.getElem?_set]
  by_cases e : h = k
  · subst e; rw [if_pos rfl, if_pos hk, if_pos rfl]; rfl
  · rw [if_neg (fun h => e h.symm), if_neg e]
theorem getD_posN {l : List Nat} {h : Nat} (hp : 0 < l.getD h 0) : h < l.length := by
  by_cases hh : h < l.length
  · exact hh
  · rw [List.getD_eq_getElem?_getD, List.getElem?_eq_none (by omega)] at hp
    exact absurd hp (Nat.lt_irrefl _)
/-- a host that only one slot of a table has -/
theorem one_at {l : List Slt} {h c c' : Nat} (h1 : cntT l h ≤ 1) (hc : c < l.length) (hc' : c' < l.length) (e : isH h (l.getD c zS) = true) (e' : isH h (l.getD c' zS) = true) : c = c' := by
  refine Classical.byContradiction fun hne => ?_
  have h2 := cntT_set hc zS h
  rw [if_pos e, if_neg (by simp [isH, zS])] at h2
  have : 0 < cntT (l.set c zS) h := by
    refine cntT_pos.2 ⟨l.getD c' zS, ?_, isH_iff.1 e'⟩
    rw [List.getD_eq_getElem?_getD, List.getElem?_eq_getElem hc'] 
    refine List.mem_iff_getElem.2 ⟨c', by simpa using hc', ?_⟩
    rw [List.getElem_set_ne hne]
    rfl
  omega

/-! ### what holds of it always -/
/-- all but whose a cluster is -/
structure OkJ (M : Img) : Prop where
  B : M.B ≤ 3
  len : M.t.length ≤ 256
  room : M.n.length ≤ 512
  right : ∀ s ∈ M.t, rightS s = true
  rights : ∀ p ∈ M.s, ∀ s ∈ p.2, rightS s = true
  lens : ∀ p ∈ M.s, p.2.length ≤ 256
  cnt : ∀ h, ng M h = refs M h
  one : ∀ h, cntT M.t h ≤ 1
  ones : ∀ p ∈ M.s, ∀ h, cntT p.2 h ≤ 1
  gone : ∀ h, ng M h = 0 → M.d h = none
  dat : ∀ h, 0 < ng M h → ∃ b, M.d h = some b ∧ b.length = M.z
  names : ∀ p ∈ M.s, okName p.1 = true
  nodup : (M.s.map (·.1)).Nodup
  few : M.s.length ≤ 8
structure OkI (M : Img) : Prop extends OkJ M where
  own : ∀ s ∈ M.t, s.1 = 1 → s.2.2 = decide (ng M (hst s) = 1)
section
variable {M : Img} (h : OkJ M)
include h
theorem OkJ.live {s : Slt} (hs : s ∈ M.t) (h1 : s.1 = 1) : 0 < ng M (hst s) := by
  rw [h.cnt]
  have : 0 < cntT M.t (hst s) := cntT_pos.2 ⟨s, hs, h1, rfl⟩
  unfold refs
  omega
theorem OkJ.lives {s : Slt} {p : By × List Slt} (hp : p ∈ M.s) (hs : s ∈ p.2) (h1 : s.1 = 1) : 0 < ng M (hst s) := by
  rw [h.cnt]
  have : 0 < cntS M.s (hst s) := cntS_pos.2 ⟨p, hp, cntT_pos.2 ⟨s, hs, h1, rfl⟩⟩
  unfold refs
  omega
theorem OkJ.small (k : Nat) : ng M k ≤ 9 := by
  rw [h.cnt]
  unfold refs cntS
  have h1 := h.one k
  have : ∀ l : List (By × List Slt), (∀ p ∈ l, cntT p.2 k ≤ 1) → (l.map fun p => cntT p.2 k).sum ≤ l.length := by
    intro l hl
    induction l with
    | nil => simp
    | cons p l ih =>
      simp only [List.map_cons, List.sum_cons, List.length_cons]
      have := hl p List.mem_cons_self
      have := ih fun q hq => hl q (List.mem_cons_of_mem _ hq)
      omega
  have := this M.s fun p hp => h.ones p hp k
  have := h.few
  omega
theorem OkJ.con {s : Slt} (hs : s ∈ M.t) : (conS M s).length = M.z := by
  unfold conS
  split
  · rename_i h1
    obtain ⟨b, hb, hl⟩ := h.dat _ (h.live hs h1)
    rw [hb]
    exact hl
  · simp [zBy]
theorem OkJ.conc (c : Nat) : (conC M c).length = M.z := by
  unfold conC
  by_cases hc : c < M.t.length
  · exact h.con (getD_memS hc)
  · rw [List.getD_eq_getElem?_getD, List.getElem?_eq_none (by omega)]
    simp [conS, zS, zBy]
end
theorem ng_lt {M : Img} {k : Nat} (hk : 0 < ng M k) : k < M.n.length := getD_posN hk
theorem host_nat {s : Slt} (h : rightS s = true) (h1 : s.1 = 1) : s.2.1 = (hst s : Int) ∧ hst s < 512 := by
  obtain ⟨a, b, c⟩ := s
  simp only at h1
  subst h1
  simp [rightS] at h
  simp only [hst]
  omega

/-! ### the small steps -/
def setF (d : Nat → Option By) (h : Nat) (v : Option By) : Nat → Option By := fun k => if k = h then v else d k
def lessI (M : Img) (s : Slt) : Img := if s.1 = 1 then { M with n := M.n.set (hst s) (ng M (hst s) - 1), d := if ng M (hst s) - 1 = 0 then setF M.d (hst s) none else M.d } else M
def setI (M : Img) (c : Nat) (s : Slt) : Img := lessI { M with t := M.t.set c s } (M.t.getD c zS)
def moreI (M : Img) (s : Slt) : Img := if s.1 = 1 then { M with n := M.n.set (hst s) (ng M (hst s) + 1) } else M
def ownI (M : Img) (s : Slt) : Slt := if s.1 = 1 then (1, s.2.1, decide (ng M (hst s) = 1)) else s
def ownsI (M : Img) : Img := { M with t := M.t.map (ownI M) }
/-- what is less, or more, by a row of slots -/
def lessL (M : Img) (q : List Slt) : Img := q.foldl lessI M
def moreL (M : Img) (q : List Slt) : Img := q.foldl moreI M
theorem less_n {M : Img} {s : Slt} (hs : s.1 = 1 → hst s < M.n.length) (h : Nat) : ng (lessI M s) h = ng M h - (if isH h s = true then 1 else 0) := by
  unfold lessI
  by_cases h1 : s.1 = 1
  · rw [if_pos h1]
    unfold ng at *
    simp only
    rw [getD_setN _ _ _ _ (hs h1)]
    by_cases e : h = hst s
    · subst e; rw [if_pos rfl, if_pos (by simp [isH, h1])]
    · rw [if_neg e, if_neg (by simp [isH, h1]; exact fun h' => e h'.symm)]
      rfl
  · rw [if_neg h1, isH_ne h1]
    rfl
theorem less_d {M : Img} {s : Slt} (h : Nat) : (lessI M s).d h = if isH h s = true ∧ ng M h - 1 = 0 then none else M.d h := by
  unfold lessI
  by_cases h1 : s.1 = 1
  · rw [if_pos h1]
    simp only
    by_cases e : h = hst s
    · subst e
      have : isH (hst s) s = true := by simp [isH, h1]
      split
      · rename_i hz; rw [if_pos ⟨this, hz⟩]; simp [setF]
      · rename_i hz; rw [if_neg (fun hh => hz hh.2)]
    · have : ¬ (isH h s = true ∧ ng M h - 1 = 0) := fun hh => e (isH_iff.1 hh.1).2.symm
      rw [if_neg this]
      split
      · simp [setF, e]
      · rfl
  · rw [if_neg h1, isH_ne h1]
    simp
theorem less_keep (M : Img) (s : Slt) : (lessI M s).B = M.B ∧ (lessI M s).t = M.t ∧ (lessI M s).s = M.s ∧ (lessI M s).n.length = M.n.length := by
  unfold lessI
  split <;> simp
theorem more_keep (M : Img) (s : Slt) : (moreI M s).B = M.B ∧ (moreI M s).t = M.t ∧ (moreI M s).s = M.s ∧ (moreI M s).n.length = M.n.length ∧ (moreI M s).d = M.d := by
  unfold moreI
  split <;> simp
theorem more_n {M : Img} {s : Slt} (hs : s.1 = 1 → hst s < M.n.length) (h : Nat) : ng (moreI M s) h = ng M h + (if isH h s = true then 1 else 0) := by
  unfold moreI
  by_cases h1 : s.1 = 1
  · rw [if_pos h1]
    unfold ng at *
    simp only
    rw [getD_setN _ _ _ _ (hs h1)]
    by_cases e : h = hst s
    · subst e; rw [if_pos rfl, if_pos (by simp [isH, h1])]
    · rw [if_neg e, if_neg (by simp [isH, h1]; exact fun h' => e h'.symm)]
      rfl
  · rw [if_neg h1, isH_ne h1]
    rfl
theorem lessL_keep (q : List Slt) : ∀ M : Img, (lessL M q).B = M.B ∧ (lessL M q).t = M.t ∧ (lessL M q).s = M.s ∧ (lessL M q).n.length = M.n.length := by
  induction q with
  | nil => exact fun M => ⟨rfl, rfl, rfl, rfl⟩
  | cons s q ih =>
    intro M
    have h1 := ih (lessI M s)
    have h2 := less_keep M s
    unfold lessL at *
    rw [List.foldl_cons]
    exact ⟨h1.1.trans h2.1, h1.2.1.trans h2.2.1, h1.2.2.1.trans h2.2.2.1, h1.2.2.2.trans h2.2.2.2⟩
theorem moreL_keep (q : List Slt) : ∀ M : Img, (moreL M q).B = M.B ∧ (moreL M q).t = M.t ∧ (moreL M q).s = M.s ∧ (moreL M q).n.length = M.n.length ∧ (moreL M q).d = M.d := by
  induction q with
  | nil => exact fun M => ⟨rfl, rfl, rfl, rfl, rfl⟩
  | cons s q ih =>
    intro M
    have h1 := ih (moreI M s)
    have h2 := more_keep M s
    unfold moreL at *
    rw [List.foldl_cons]
    exact ⟨h1.1.trans h2.1, h1.2.1.trans h2.2.1, h1.2.2.1.trans h2.2.2.1, h1.2.2.2.1.trans h2.2.2.2.1, h1.2.2.2.2.trans h2.2.2.2.2⟩
theorem cntT_cons (s : Slt) (q : List Slt) (h : Nat) : cntT (s :: q) h = cntT q h + (if isH h s = true then 1 else 0) := by
  unfold cntT
  rw [List.countP_cons]
theorem cntT_append (q r : List Slt) (h : Nat) : cntT (q ++ r) h = cntT q h + cntT r h := by
  unfold cntT
  rw [List.countP_append]
theorem lessL_n (q : List Slt) : ∀ M : Img, (∀ s ∈ q, s.1 = 1 → hst s < M.n.length) → ∀ h, ng (lessL M q) h = ng M h - cntT q h := by
  induction q with
  | nil => intro M _ h; simp [lessL, cntT]
  | cons s q ih =>
    intro M hq h
    have h1 := ih (lessI M s) (fun x hx hx1 => by rw [(less_keep M s).2.2.2]; exact hq x (List.mem_cons_of_mem _ hx) hx1) h
    unfold lessL at *
    rw [List.foldl_cons, h1, less_n (hq s List.mem_cons_self), cntT_cons]
    omega
theorem moreL_n (q : List Slt) : ∀ M : Img, (∀ s ∈ q, s.1 = 1 → hst s < M.n.length) → ∀ h, ng (moreL M q) h = ng M h + cntT q h := by
  induction q with
  | nil => intro M _ h; simp [moreL, cntT]
  | cons s q ih =>
    intro M hq h
    have h1 := ih (moreI M s) (fun x hx hx1 => by rw [(more_keep M s).2.2.2.1]; exact hq x (List.mem_cons_of_mem _ hx) hx1) h
    unfold moreL at *
    rw [List.foldl_cons, h1, more_n (hq s List.mem_cons_self), cntT_cons]
    omega
/-- what is gone has no slot more -/
theorem lessL_d (q : List Slt) : ∀ M : Img, (∀ s ∈ q, s.1 = 1 → hst s < M.n.length) → (∀ h, cntT q h ≤ ng M h) → ∀ h, (lessL M q).d h = if 0 < cntT q h ∧ ng M h - cntT q h = 0 then none else M.d h := by
  induction q with
  | nil => intro M _ _ h; simp [lessL, cntT]
  | cons s q ih =>
    intro M hq hc h
    have hn := less_n (M := M) (hq s List.mem_cons_self)
    have h1 := ih (lessI M s) (fun x hx hx1 => by rw [(less_keep M s).2.2.2]; exact hq x (List.mem_cons_of_mem _ hx) hx1) (fun k => by
      rw [hn]
      have := hc k
      rw [cntT_cons] at this
      omega) h
    unfold lessL at *
    rw [List.foldl_cons, h1, hn, less_d, cntT_cons]
    have := hc h
    rw [cntT_cons] at this
    by_cases e : isH h s = true
    · simp only [e, if_true, true_and]
      by_cases hz : ng M h - 1 - cntT q h = 0
      · by_cases hp : 0 < cntT q h
        · rw [if_pos ⟨hp, hz⟩, if_pos ⟨by omega, by omega⟩]
        · rw [if_neg (fun hh => hp hh.1), if_pos (by omega), if_pos ⟨by omega, by omega⟩]
      · rw [if_neg (fun hh => hz hh.2), if_neg (fun hh => hz (by omega)), if_neg (by omega)]
    · simp only [e, Bool.false_eq_true, if_false, false_and, Nat.sub_zero, Nat.add_zero]
end Go.Proofs.YtilhbjjjmdnjmaaGreat
