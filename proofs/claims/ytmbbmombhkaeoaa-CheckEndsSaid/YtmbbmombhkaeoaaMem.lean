/-
  What lies in memory, said once: 'Fr L w w'' (nothing that was there has turned, but for the blocks of the list L), slices that are read ('Sl'), slices that are owned (the library's 'ownsRow'), maps keyed by whatever has the library's 'Keyed'. No program in sight.
-/
import Derived.WalkKit
import Derived.WalkLawsBesides
import Derived.WalkSpells
import Derived.KernelRfl
import Derived.Maps.Keyed
import Derived.Maps.AppendAt
import Derived.Deep.Draws
import Derived.StillTailTactics
namespace Go.Proofs.Ytmbbmombhkaeoaa
open Go.RowKit

/-- Nothing that was in w has turned in w', but for the blocks of L; no block has gone. -/
structure Fr (L : List Nat) (w w' : World) : Prop where
  os : w'.os = w.os
  tape : w'.tape = w.tape
  output : w'.output = w.output
  size : w.heap.size ≤ w'.heap.size
  block : ∀ k, k < w.heap.size → k ∉ L → w'.heap[k]? = w.heap[k]?

theorem Fr.refl (L : List Nat) (w : World) : Fr L w w := ⟨rfl, rfl, rfl, Nat.le_refl _, fun _ _ _ => rfl⟩
/-- two steps: what the second one may turn is of L, or was not there at first -/
theorem Fr.trans {L M : List Nat} {a b c : World} (h : Fr L a b) (k : Fr M b c) (hM : ∀ x, x ∈ M → x < a.heap.size → x ∈ L) : Fr L a c :=
  ⟨k.os.trans h.os, k.tape.trans h.tape, k.output.trans h.output, Nat.le_trans h.size k.size,
   fun i hi hn => (k.block i (Nat.lt_of_lt_of_le hi h.size) (fun hm => hn (hM i hm hi))).trans (h.block i hi hn)⟩
theorem Fr.trans0 {L : List Nat} {a b c : World} (h : Fr L a b) (k : Fr [] b c) : Fr L a c := h.trans k (fun _ h => by cases h)
theorem Fr.trans' {L : List Nat} {a b c : World} (h : Fr L a b) (k : Fr L b c) : Fr L a c := h.trans k (fun _ h _ => h)
theorem Fr.mono {L M : List Nat} {a b : World} (h : Fr L a b) (hs : ∀ x, x ∈ L → x < a.heap.size → x ∈ M) : Fr M a b :=
  ⟨h.os, h.tape, h.output, h.size, fun k hk hn => h.block k hk (fun hm => hn (hs k hm hk))⟩
theorem Fr.weak {L : List Nat} {a b : World} (h : Fr [] a b) : Fr L a b := h.mono (fun _ h => by cases h)
theorem Fr.drew {L : List Nat} {a w : World} (h : Fr L a w) : Fr L a w.drew := ⟨h.os, h.tape, h.output, h.size, h.block⟩
theorem Fr.drewN {L : List Nat} {a w : World} (h : Fr L a w) (n : Nat) : Fr L a (w.drewN n) := ⟨h.os, h.tape, h.output, h.size, h.block⟩
theorem Fr.alloc {L : List Nat} {a w : World} (h : Fr L a w) (o : Obj) : Fr L a (w.alloc o) :=
  ⟨h.os, h.tape, h.output, by have := h.size; simp; omega, fun k hk hn => (Below.heap_alloc _ _ _ (Nat.lt_of_lt_of_le hk h.size)).trans (h.block k hk hn)⟩
theorem Fr.setCell {L : List Nat} {a w : World} (h : Fr L a w) {p : Addr} (hp : p.block ∈ L ∨ a.heap.size ≤ p.block) (u : Value) : Fr L a (w.setCell p u) :=
  ⟨h.os, h.tape, h.output, by have := h.size; simpa [World.setCell] using this, fun k hk hn => (Below.heap_setCell _ _ _ _ (fun e => by subst e; rcases hp with hp | hp; exact hn hp; omega)).trans (h.block k hk hn)⟩
theorem Fr.grown {L : List Nat} {a w w' : World} {row : Option Nat} (h : Fr L a w) (hg : w.grownBy w' row) (hr : ∀ k, row = some k → k ∈ L ∨ a.heap.size ≤ k) : Fr L a w' :=
  ⟨hg.os.trans h.os, hg.tape.trans h.tape, hg.output.trans h.output, Nat.le_trans h.size hg.size,
   fun k hk hn => (hg.block k (Nat.lt_of_lt_of_le hk h.size) (fun e => by rcases hr k e.symm with h1 | h1; exact hn h1; omega)).trans (h.block k hk hn)⟩
theorem Fr.of_grown {w w' : World} {row : Option Nat} (hg : w.grownBy w' row) : Fr row.toList w w' :=
  ⟨hg.os, hg.tape, hg.output, hg.size, fun k hk hn => hg.block k hk (fun e => hn (by rw [← e]; simp))⟩
theorem Fr.trans1 {L : List Nat} {a b c : World} {x : Nat} (h : Fr L a b) (k : Fr [x] b c) (hx : a.heap.size ≤ x) : Fr L a c :=
  h.trans k (fun y hy hl => by rw [List.mem_singleton] at hy; omega)
theorem Fr.set1 (w : World) (b : Nat) (v0 : Value) : Fr [b] w (w.setCell ⟨b, 0, none⟩ v0) := (Fr.refl _ w).setCell (.inl (by simp)) _
theorem Fr.set2 (w : World) (b : Nat) (v0 v1 : Value) : Fr [b] w ((w.setCell ⟨b, 0, none⟩ v0).setCell ⟨b, 1, none⟩ v1) := (Fr.set1 w b v0).setCell (.inl (by simp)) _
theorem Fr.set3 (w : World) (b : Nat) (v0 v1 v2 : Value) : Fr [b] w (((w.setCell ⟨b, 0, none⟩ v0).setCell ⟨b, 1, none⟩ v1).setCell ⟨b, 2, none⟩ v2) := (Fr.set2 w b v0 v1).setCell (.inl (by simp)) _
theorem Fr.set3' (w : World) (b o0 o1 o2 : Nat) (v0 v1 v2 : Value) : Fr [b] w (((w.setCell ⟨b, o0, none⟩ v0).setCell ⟨b, o1, none⟩ v1).setCell ⟨b, o2, none⟩ v2) :=
  (((Fr.refl _ w).setCell (.inl (by simp)) _).setCell (.inl (by simp)) _).setCell (.inl (by simp)) _
theorem Fr.below {L : List Nat} {a w : World} (h : Fr L a w) {B : Nat} (hB : B ≤ a.heap.size) (hL : ∀ x, x ∈ L → B ≤ x) : Below B a w :=
  ⟨h.os, h.tape, h.output, h.size, fun k hk => h.block k (by omega) (fun hm => by have := hL k hm; omega)⟩
theorem Fr.of_below {a w : World} (h : Below a.heap.size a w) : Fr [] a w := ⟨h.os, h.tape, h.output, h.size, fun k hk _ => h.block k hk⟩
theorem Fr.toBelow {a w : World} (h : Fr [] a w) : Below a.heap.size a w := h.below (Nat.le_refl _) (fun _ h => by cases h)
/-- the two rules by which a walk reads old cells in the new world -/
theorem Fr.rules {L : List Nat} {a w : World} (h : Fr L a w) :
    (∀ b o, b < a.heap.size → b ∉ L → w.cell? ⟨b, o, none⟩ = a.cell? ⟨b, o, none⟩) ∧ (∀ b o, b < a.heap.size → b ∉ L → w.frozen? ⟨b, o, none⟩ = a.frozen? ⟨b, o, none⟩) :=
  ⟨fun b _ hb hn => World.cell?_of_block (h.block b hb hn), fun b _ hb hn => World.frozen?_of_block (h.block b hb hn)⟩
theorem Fr.rules0 {a w : World} (h : Fr [] a w) :
    (∀ b o, b < a.heap.size → w.cell? ⟨b, o, none⟩ = a.cell? ⟨b, o, none⟩) ∧ (∀ b o, b < a.heap.size → w.frozen? ⟨b, o, none⟩ = a.frozen? ⟨b, o, none⟩) :=
  ⟨fun b _ hb => World.cell?_of_block (h.block b hb (by simp)), fun b _ hb => World.frozen?_of_block (h.block b hb (by simp))⟩
theorem Fr.frame {W w' : World} (h : Fr [] W w') (may : MemPlace → Prop) : W.keptBut w' may := h.toBelow.frame may

/-! ### a block of known cells -/
/-- Block b holds just these cells, none of them frozen. -/
def Blk (w : World) (b : Nat) (cs : List Value) (t : TypeId) : Prop := w.heap[b]? = some (.cells cs.toArray t (0, 0))
theorem Blk.lt {w : World} {b : Nat} {cs : List Value} {t : TypeId} (h : Blk w b cs t) : b < w.heap.size := (Array.getElem?_eq_some_iff.1 h).1
theorem Blk.fr {L : List Nat} {w w' : World} {b : Nat} {cs : List Value} {t : TypeId} (h : Blk w b cs t) (hf : Fr L w w') (hn : b ∉ L) : Blk w' b cs t := (hf.block b h.lt hn).trans h
theorem Blk.cell {w : World} {b : Nat} {cs : List Value} {t : TypeId} (h : Blk w b cs t) (o : Nat) : w.cell? ⟨b, o, none⟩ = cs[o]? := by
  rw [cell_of_row w b o _ t _ h]; simp
theorem Blk.frozen {w : World} {b : Nat} {cs : List Value} {t : TypeId} (h : Blk w b cs t) (o : Nat) : w.frozen? ⟨b, o, none⟩ = false := frozen_of_row w b o _ t h
theorem Blk.new (w : World) (cs : List Value) (t : TypeId) : Blk (w.alloc (.cells cs.toArray t)) w.heap.size cs t := heap_alloc_new w _
theorem Blk.new' {w : World} {n : Nat} (hn : n = w.heap.size) (cs : List Value) (t : TypeId) : Blk (w.alloc (.cells cs.toArray t)) n cs t := by subst hn; exact Blk.new w cs t
theorem Blk.fr0 {w w' : World} {b : Nat} {cs : List Value} {t : TypeId} (h : Blk w b cs t) (hf : Fr [] w w') : Blk w' b cs t := h.fr hf (by simp)
theorem Blk.alloc {w : World} {b : Nat} {cs : List Value} {t : TypeId} (h : Blk w b cs t) (o : Obj) : Blk (w.alloc o) b cs t := (Below.heap_alloc w o b h.lt).trans h
theorem Blk.drew {w : World} {b : Nat} {cs : List Value} {t : TypeId} (h : Blk w b cs t) : Blk w.drew b cs t := h
theorem Blk.drewN {w : World} {b : Nat} {cs : List Value} {t : TypeId} (h : Blk w b cs t) (n : Nat) : Blk (w.drewN n) b cs t := h
theorem Blk.setCell {w : World} {b : Nat} {cs : List Value} {t : TypeId} (h : Blk w b cs t) (o : Nat) (v : Value) : Blk (w.setCell ⟨b, o, none⟩ v) b (cs.set o v) t := by
  have := heap_setCell_same w b o _ t v h
  unfold Blk
  rw [this]
  simp
theorem Blk.other {w : World} {b : Nat} {cs : List Value} {t : TypeId} (h : Blk w b cs t) {p : Addr} (hp : b ≠ p.block) (v : Value) : Blk (w.setCell p v) b cs t :=
  (Below.heap_setCell _ _ _ _ hp).trans h

/-! ### slices that are read -/
/-- From the address a on lie the cells xs (none of them: whatever a is). -/
def SlC (w : World) (a : Option Addr) (xs : List Value) : Prop :=
  xs = [] ∨ ∃ b off, a = some ⟨b, off, none⟩ ∧ b < w.heap.size ∧ ∀ j u, xs[j]? = some u → w.cell? ⟨b, off + j, none⟩ = some u
/-- v is a slice of n elements, whose cells are xs. -/
def Sl (w : World) (v : Value) (n : Nat) (xs : List Value) : Prop := ∃ a cap, v = .slice a n cap ∧ n ≤ cap ∧ cap ≤ maxLen ∧ SlC w a xs
theorem Sl.le {w : World} {v : Value} {n : Nat} {xs : List Value} (h : Sl w v n xs) : n ≤ maxLen := by
  obtain ⟨a, cap, _, h1, h2, _⟩ := h; omega
theorem SlC.fr {L : List Nat} {w w' : World} {a : Option Addr} {xs : List Value} (h : SlC w a xs) (hf : Fr L w w') (hn : ∀ p, a = some p → p.block ∉ L) : SlC w' a xs := by
  rcases h with h | ⟨b, off, rfl, hb, hc⟩
  · exact .inl h
  · have hnl := hn _ rfl
    exact .inr ⟨b, off, rfl, Nat.lt_of_lt_of_le hb hf.size, fun j u hu => (World.cell?_of_block (hf.block b hb hnl)).trans (hc j u hu)⟩
theorem Sl.fr {L : List Nat} {w w' : World} {v : Value} {n : Nat} {xs : List Value} (h : Sl w v n xs) (hf : Fr L w w') (hn : ∀ k, v.ownBlock = some k → k ∉ L) : Sl w' v n xs := by
  obtain ⟨a, cap, rfl, h1, h2, hc⟩ := h
  exact ⟨a, cap, rfl, h1, h2, hc.fr hf (fun p hp => hn p.block (by simp [Value.ownBlock, hp]))⟩
theorem Sl.fr0 {w w' : World} {v : Value} {n : Nat} {xs : List Value} (h : Sl w v n xs) (hf : Fr [] w w') : Sl w' v n xs := h.fr hf (by simp)
theorem Sl.nil (w : World) : Sl w (.slice none 0 0) 0 [] := ⟨none, 0, rfl, Nat.le_refl _, Nat.zero_le _, .inl rfl⟩
theorem Sl.of_owns {w : World} {base : Nat} {e : TypeId} {size : Nat} {v : Value} {n : Nat} {xs : List Value} (h : w.ownsRow base e size v n xs) : Sl w v n xs := by
  rcases h.2 with ⟨rfl, rfl⟩ | ⟨g, cap, cur, rfl, _, hg, hn, hm, hcs, ht⟩
  · have : xs = [] := List.eq_nil_of_length_eq_zero (by simpa using h.1)
    subst this
    exact Sl.nil w
  · refine ⟨_, cap, rfl, hn, hm, .inr ⟨g, 0, rfl, (Array.getElem?_eq_some_iff.1 hg).1, fun j u hu => ?_⟩⟩
    rw [Nat.zero_add, cell_of_row w g j _ e _ hg]
    rw [← ht, List.getElem?_take] at hu
    split at hu
    · simpa using hu
    · cases hu
/-- what lies below the owned rows' base is none of them -/
theorem own_notin {w : World} {base : Nat} {e : TypeId} {size : Nat} {v : Value} {n : Nat} {xs : List Value} (h : w.ownsRow base e size v n xs) {x : Nat} (hx : x < base) : x ∉ v.ownBlock.toList := by
  intro hm
  have := (h.lt x (by simpa using hm)).1
  omega
theorem own_base {w : World} {base : Nat} {e : TypeId} {size : Nat} {v : Value} {n : Nat} {xs : List Value} (h : w.ownsRow base e size v n xs) : ∀ k, v.ownBlock = some k → base ≤ k := fun k hk => (h.lt k hk).1
/-- the owned row is kept -/
theorem owns_fr {L : List Nat} {w w' : World} {base : Nat} {e : TypeId} {size : Nat} {v : Value} {n : Nat} {xs : List Value} (h : w.ownsRow base e size v n xs) (hf : Fr L w w') (hn : ∀ k, v.ownBlock = some k → k ∉ L) : w'.ownsRow base e size v n xs := by
  refine ⟨h.1, ?_⟩
  rcases h.2 with h2 | ⟨g, cap, cur, hv, hb, hg, r⟩
  · exact .inl h2
  · exact .inr ⟨g, cap, cur, hv, hb, (hf.block g (Array.getElem?_eq_some_iff.1 hg).1 (hn g (by simp [hv, Value.ownBlock]))).trans hg, r⟩
theorem owns_setCell {w : World} {base : Nat} {e : TypeId} {size : Nat} {v : Value} {n : Nat} {xs : List Value} (h : w.ownsRow base e size v n xs) {a : Addr} (ha : a.block < base) (u : Value) : (w.setCell a u).ownsRow base e size v n xs :=
  ownsRow_setCell_below h ha u
theorem owns_drew {w : World} {base : Nat} {e : TypeId} {size : Nat} {v : Value} {n : Nat} {xs : List Value} (h : w.ownsRow base e size v n xs) : w.drew.ownsRow base e size v n xs := h
theorem owns_drewN {w : World} {base : Nat} {e : TypeId} {size : Nat} {v : Value} {n : Nat} {xs : List Value} (h : w.ownsRow base e size v n xs) (k : Nat) : (w.drewN k).ownsRow base e size v n xs := h
theorem Sl.drew {w : World} {v : Value} {n : Nat} {xs : List Value} (h : Sl w v n xs) : Sl w.drew v n xs := h
theorem Sl.drewN {w : World} {v : Value} {n : Nat} {xs : List Value} (h : Sl w v n xs) (k : Nat) : Sl (w.drewN k) v n xs := h
theorem owns_base {w : World} {base base' : Nat} {e : TypeId} {size : Nat} {v : Value} {n : Nat} {xs : List Value} (h : w.ownsRow base e size v n xs) (hb : base' ≤ base) : w.ownsRow base' e size v n xs := by
  refine ⟨h.1, ?_⟩
  rcases h.2 with h2 | ⟨g, cap, cur, hv, hbb, r⟩
  · exact .inl h2
  · exact .inr ⟨g, cap, cur, hv, Nat.le_trans hb hbb, r⟩
/-- the cells of a block that has just been laid -/
theorem cells_new {W : World} {n : Nat} (hn : n = W.heap.size) (cs : List Value) (E : TypeId) : ∀ j u, cs[j]? = some u → (W.alloc (.cells cs.toArray E)).cell? ((⟨n, 0, none⟩ : Addr).add j) = some u := by
  subst hn
  intro j u hu
  have hadd : (⟨W.heap.size, 0, none⟩ : Addr).add j = ⟨W.heap.size, j, none⟩ := by unfold Addr.add; split <;> simp_all
  rw [hadd, (Blk.new W cs E).cell j]
  exact hu
/-- 'out = append(out, x)', x one element in a block of its own; out the call's own slice -/
theorem wpList_append1 {P : Program} (T E : TypeId) (z : Value) (size bytes : Nat) (ht : P.underlying T = some (.slice E)) (hinfo : (P.info? E).map (fun i => (i.zero, i.size, i.bytes)) = some (some z, size, bytes))
    (hzs : z.cells.size = size) (hsz : 0 < size) (hby : bytes ≤ 4096) {ops : Array Oper} {rest : List Oper} {o : Oper} {a : Act} {Q : Exit → Act → World → Prop} {w : World} (hgd : o.guard = none) (s x : Operand)
    (ho : o.op = .call { callee := .builtin .append, args := #[s, x], argTypes := #[T, T] }) (base : Nat) (v : Value) (n : Nat) (xs : List Value) (hs : a.eval s = v) (hown : w.ownsRow base E size v n xs)
    (cs : List Value) (hcs : cs.length = size) (h1 : ∀ u ∈ cs, u.oneCell' = true) (nb : Nat) (hx : a.eval x = .slice (some ⟨nb, 0, none⟩) 1 1) {tb : TypeId} (hB : Blk w nb cs tb) (hn : n ≤ 4294967296) (hbase : base ≤ w.heap.size)
    (h : ∀ v' w', w'.ownsRow base E size v' (n + 1) (xs ++ cs) → w.grownBy w' v.ownBlock → (v'.ownBlock = v.ownBlock ∨ v'.ownBlock = some w.heap.size) → wpList P ops Q rest (a.put o.dst v') w') : wpList P ops Q (o :: rest) a w := by
  obtain ⟨i0, hi, hz0, hz1, hz2⟩ := info_parts hinfo
  refine wpList_append_own_at w hgd s x T ho base E i0 z size bytes ht hi hz0 hz1 hz2 hzs hsz v n xs hs hown ⟨nb, 0, none⟩ 1 1 cs hx (by omega) (fun j u hu => ?_) h1 (by unfold maxLen; omega) ?_ hbase (fun v' w' g1 g2 _ g4 => h v' w' g1 g2 g4)
  · have hadd : (⟨nb, 0, none⟩ : Addr).add j = ⟨nb, j, none⟩ := by unfold Addr.add; split <;> simp_all
    rw [hadd, hB.cell j]
    exact hu
  · have : (n + 1) * bytes ≤ 4294967297 * 4096 := Nat.mul_le_mul (by omega) hby
    omega
/-- an operation whose run is known -/
theorem wpList_run {P : Program} {ops : Array Oper} {rest : List Oper} {o : Oper} {a : Act} {Q : Exit → Act → World → Prop} {w w' : World} {v : Value} (hgd : o.guard = none) (hr : (execOp a.eval o).run P w = .ok (.value v) w')
    (h : wpList P ops Q rest (a.put o.dst v) w') : wpList P ops Q (o :: rest) a w :=
  wpList_plain hgd fun K hK => by
    unfold Oper.wp
    rw [hr]
    exact hK _ _ h
theorem wpList_field {P : Program} (T i : Nat) {ops : Array Oper} {rest : List Oper} {o : Oper} {a : Act} {Q : Exit → Act → World → Prop} {w : World} (hgd : o.guard = none) (x : Operand) (ho : o.op = .field T x i) (v : Value) (hx : a.eval x = v) {u : Value}
    (hr : ∀ w, (Instr.field T v i).run P w = .ok u w) (h : wpList P ops Q rest (a.put o.dst u) w) : wpList P ops Q (o :: rest) a w :=
  wpList_plain hgd fun K hK => by
    unfold Oper.wp execOp
    simp only [ho, hx, Sem.run_bind, hr, Result.andThen_ok, Sem.run_pure]
    exact hK _ _ h
/-! ### a region that draws its order: an operation that leaves the world alone -/
theorem wpStill_value {P : Program} {ops : Array Oper} {w : World} {Q : Act → Prop} {a : Act} {o : Oper} {rest : List Oper} (hg : o.guard = none) (v : Value) (hr : (execOp a.eval o).run P w = .ok (.value v) w)
    (h : wpStill P ops w Q rest (a.put o.dst v)) : wpStill P ops w Q (o :: rest) a :=
  wpStill_step fun K hK => by
    simp only [Region.wanted, hg, if_true, Oper.still, hr, Oper.stillUpon_value]
    exact hK _ h
/-! ### small ones for a walk's end -/
theorem hidIt {p : Prop} (h : p) : Hid p := h
theorem ret_bool {a b : Bool} (h : a = b) : Ending.returned (.bool a) = Ending.returned (.bool b) := by rw [h]
theorem ret_int {k : IntKind} {a b : Int} (h : a = b) : Ending.returned (.int k a) = Ending.returned (.int k b) := by rw [h]
theorem ret_val {a b : Value} (h : a = b) : Ending.returned a = Ending.returned b := by rw [h]
end Go.Proofs.Ytmbbmombhkaeoaa
