/-
  What lies in memory, said once: 'Fr L w w'' (nothing that was there has turned, but for the blocks of the list L), slices that are read ('Sl'), slices that are owned (the library's 'ownsRow'), maps keyed by whatever has the library's 'Keyed'. No program in sight.
-/
import Derived.WalkKit
import Derived.WalkLawsBesides
import Derived.WalkSpells
import Derived.KernelRfl
import Derived.Maps.Keyed
import Derived.Maps.AppendAt
import Derived.Deep.Draws
import Derived.StillTailTactics
namespace Go.Proofs.YtiifmakhfpllnaaGreat
open Go.RowKit

/-- Nothing that was in w has turned in w', but for the blocks of L; no block has gone. -/
structure Fr (L : List Nat) (w w' : World) : Prop where
  os : w'.os = w.os
  tape : w'.tape = w.tape
  output : w'.output = w.output
  size : w.heap.size ≤ w'.heap.size
  block : ∀ k, k < w.heap.size → k ∉ L → w'.heap[k]? = w.heap[k]?

theorem Fr.refl (L : List Nat) (w : World) : Fr L w w := ⟨rfl, rfl, rfl, Nat.le_refl _, fun _ _ _ => rfl⟩
/-- two steps: what the second one may turn is of L, or was not there at first -/
theorem Fr.trans {L M : List Nat} {a b c : World} (h : Fr L a b) (k : Fr M b c) (hM : ∀ x, x ∈ M → x < a.heap.size → x ∈ L) : Fr L a c :=
  ⟨k.os.trans h.os, k.tape.trans h.tape, k.output.trans h.output, Nat.le_trans h.size k.size,
   fun i hi hn => (k.block i (Nat.lt_of_lt_of_le hi h.size) (fun hm => hn (hM i hm hi))).trans (h.block i hi hn)⟩
theorem Fr.trans0 {L : List Nat} {a b c : World} (h : Fr L a b) (k : Fr [] b c) : Fr L a c := h.trans k (fun _ h => by cases h)
theorem Fr.trans' {L : List Nat} {a b c : World} (h : Fr L a b) (k : Fr L b c) : Fr L a c := h.trans k (fun _ h _ => h)
theorem Fr.mono {L M : List Nat} {a b : World} (h : Fr L a b) (hs : ∀ x, x ∈ L → x < a.heap.size → x ∈ M) : Fr M a b :=
  ⟨h.os, h.tape, h.output, h.size, fun k hk hn => h.block k hk (fun hm => hn (hs k hm hk))⟩
theorem Fr.weak {L : List Nat} {a b : World} (h : Fr [] a b) : Fr L a b := h.mono (fun _ h => by cases h)
theorem Fr.drew {L : List Nat} {a w : World} (h : Fr L a w) : Fr L a w.drew := ⟨h.os, h.tape, h.output, h.size, h.block⟩
theorem Fr.drewN {L : List Nat} {a w : World} (h : Fr L a w) (n : Nat) : Fr L a (w.drewN n) := ⟨h.os, h.tape, h.output, h.size, h.block⟩
theorem Fr.alloc {L : List Nat} {a w : World} (h : Fr L a w) (o : Obj) : Fr L a (w.alloc o) :=
  ⟨h.os, h.tape, h.output, by have := h.size; simp; omega, fun k hk hn => (Below.heap_alloc _ _ _ (Nat.lt_of_lt_of_le hk h.size)).trans (h.block k hk hn)⟩
theorem Fr.setCell {L : List Nat} {a w : World} (h : Fr L a w) {p : Addr} (hp : p.block ∈ L ∨ a.heap.size ≤ p.block) (u : Value) : Fr L a (w.setCell p u) :=
  ⟨h.os, h.tape, h.output, by have := h.size; simpa [World.setCell] using this, fun k hk hn => (Below.heap_setCell _ _ _ _ (fun e => by subst e; rcases hp with hp | hp; exact hn hp; omega)).trans (h.block k hk hn)⟩
theorem Fr.grown {L : List Nat} {a w w' : World} {row : Option Nat} (h : Fr L a w) (hg : w.grownBy w' row) (hr : ∀ k, row = some k → k ∈ L ∨ a.heap.size ≤ k) : Fr L a w' :=
  ⟨hg.os.trans h.os, hg.tape.trans h.tape, hg.output.trans h.output, Nat.le_trans h.size hg.size,
   fun k hk hn => (hg.block k (Nat.lt_of_lt_of_le hk h.size) (fun e => by rcases hr k e.symm with h1 | h1; exact hn h1; omega)).trans (h.block k hk hn)⟩
theorem Fr.of_grown {w w' : World} {row : Option Nat} (hg : w.grownBy w' row) : Fr row.toList w w' :=
  ⟨hg.os, hg.tape, hg.output, hg.size, fun k hk hn => hg.block k hk (fun e => hn (by rw [← e]; simp))⟩
theorem Fr.trans1 {L : List Nat} {a b c : World} {x : Nat} (h : Fr L a b) (k : Fr [x] b c) (hx : a.heap.size ≤ x) : Fr L a c :=
  h.trans k (fun y hy hl => by rw [List.mem_singleton] at hy; omega)
theorem Fr.set1 (w : World) (b : Nat) (v0 : Value) : Fr [b] w (w.setCell ⟨b, 0, none⟩ v0) := (Fr.refl _ w).setCell (.inl (by simp)) _
theorem Fr.set2 (w : World) (b : Nat) (v0 v1 : Value) : Fr [b] w ((w.setCell ⟨b, 0, none⟩ v0).setCell ⟨b, 1, none⟩ v1) := (Fr.set1 w b v0).setCell (.inl (by simp)) _
theorem Fr.set3 (w : World) (b : Nat) (v0 v1 v2 : Value) : Fr [b] w (((w.setCell ⟨b, 0, none⟩ v0).setCell ⟨b, 1, none⟩ v1).setCell ⟨b, 2, none⟩ v2) := (Fr.set2 w b v0 v1).setCell (.inl (by simp)) _
theorem Fr.set3' (w : World) (b o0 o1 o2 : Nat) (v0 v1 v2 : Value) : Fr [b] w (((w.setCell ⟨b, o0, none⟩ v0).setCell ⟨b, o1, none⟩ v1).setCell ⟨b, o2, none⟩ v2) :=
  (((Fr.refl _ w).setCell (.inl (by simp)) _).setCell (.inl (by simp)) _).setCell (.inl (by simp)) _
theorem Fr.below {L : List Nat} {a w : World} (h : Fr L a w) {B : Nat} (hB : B ≤ a.heap.size) (hL : ∀ x, x ∈ L → B ≤ x) : Below B a w :=
  ⟨h.os, h.tape, h.output, h.size, fun k hk => h.block k (by omega) (fun hm => by have := hL k hm; omega)⟩
theorem Fr.of_below {a w : World} (h : Below a.heap.size a w) : Fr [] a w := ⟨h.os, h.tape, h.output, h.size, fun k hk _ => h.block k hk⟩
theorem Fr.toBelow {a w : World} (h : Fr [] a w) : Below a.heap.size a w := h.below (Nat.le_refl _) (fun _ h => by cases h)
/-- the two rules by which a walk reads old cells in the new world -/
theorem Fr.rules {L : List Nat} {a w : World} (h : Fr L a w) :
    (∀ b o, b < a.heap.size → b ∉ L → w.cell? ⟨b, o, none⟩ = a.cell? ⟨b, o, none⟩) ∧ (∀ b o, b < a.heap.size → b ∉ L → w.frozen? ⟨b, o, none⟩ = a.frozen? ⟨b, o, none⟩) :=
  ⟨fun b _ hb hn => World.cell?_of_block (h.block b hb hn), fun b _ hb hn => World.frozen?_of_block (h.block b hb hn)⟩
theorem Fr.rules0 {a w : World} (h : Fr [] a w) :
    (∀ b o, b < a.heap.size → w.cell? ⟨b, o, none⟩ = a.cell? ⟨b, o, none⟩) ∧ (∀ b o, b < a.heap.size → w.frozen? ⟨b, o, none⟩ = a.frozen? ⟨b, o, none⟩) :=
  ⟨fun b _ hb => World.cell?_of_block (h.block b hb (by simp)), fun b _ hb => World.frozen?_of_block (h.block b hb (by simp))⟩
theorem Fr.frame {W w' : World} (h : Fr [] W w') (may : MemPlace → Prop) : W.keptBut w' may := h.toBelow.frame may

/-! ### a block of known cells -/
/-- Block b holds just these cells, none of them frozen. -/
def Blk (w : World) (b : Nat) (cs : List Value) (t : TypeId) : Prop := w.heap[b]? = some (.cells cs.toArray t (0, 0))
theorem Blk.lt {w : World} {b : Nat} {cs : List Value} {t : TypeId} (h : Blk w b cs t) : b < w.heap.size := (Array.getElem?_eq_some_iff.1 h).1
theorem Blk.fr {L : List Nat} {w w' : World} {b : Nat} {cs : List Value} {t : TypeId} (h : Blk w b cs t) (hf : Fr L w w') (hn : b ∉ L) : Blk w' b cs t := (hf.block b h.lt hn).trans h
theorem Blk.cell {w : World} {b : Nat} {cs : List Value} {t : TypeId} (h : Blk w b cs t) (o : Nat) : w.cell? ⟨b, o, none⟩ = cs[o]? := by
  rw [cell_of_row w b o _ t _ h]; simp
theorem Blk.frozen {w : World} {b : Nat} {cs : List Value} {t : TypeId} (h : Blk w b cs t) (o : Nat) : w.frozen? ⟨b, o, none⟩ = false := frozen_of_row w b o _ t h
theorem Blk.new (w : World) (cs : List Value) (t : TypeId) : Blk (w.alloc (.cells cs.toArray t)) w.heap.size cs t := heap_alloc_new w _
theorem Blk.new' {w : World} {n : Nat} (hn : n = w.heap.size) (cs : List Value) (t : TypeId) : Blk (w.alloc (.cells cs.toArray t)) n cs t := by subst hn; exact Blk.new w cs t
theorem Blk.fr0 {w w' : World} {b : Nat} {cs : List Value} {t : TypeId} (h : Blk w b cs t) (hf : Fr [] w w') : Blk w' b cs t := h.fr hf (by simp)
theorem Blk.alloc {w : World} {b : Nat} {cs : List Value} {t : TypeId} (h : Blk w b cs t) (o : Obj) : Blk (w.alloc o) b cs t := (Below.heap_alloc w o b h.lt).trans h
theorem Blk.drew {w : World} {b : Nat} {cs : List Value} {t : TypeId} (h : Blk w b cs t) : Blk w.drew b cs t := h
theorem Blk.drewN {w : World} {b : Nat} {cs : List Value} {t : TypeId} (h : Blk w b cs t) (n : Nat) : Blk (w.drewN n) b cs t := h
theorem Blk.setCell {w : World} {b : Nat} {cs : List Value} {t : TypeId} (h : Blk w b cs t) (o : Nat) (v : Value) : Blk (w.setCell ⟨b, o, none⟩ v) b (cs.set o v) t := by
  have := heap_setCell_same w b o _ t v h
  unfold Blk
  rw [this]
  simp
theorem Blk.other {w : World} {b : Nat} {cs : List Value} {t : TypeId} (h : Blk w b cs t) {p : Addr} (hp : b ≠ p.block) (v : Value) : Blk (w.setCell p v) b cs t :=
  (Below.heap_setCell _ _ _ _ hp).trans h

/-! ### slices that are read -/
/-- From the address a on lie the cells xs (none of them: whatever a is). -/
def SlC (w : World) (a : Option Addr) (xs : List Value) : Prop :=
  xs = [] ∨ ∃ b off, a = some ⟨b, off, none⟩ ∧ b < w.heap.size ∧ ∀ j u, xs[j]? = some u → w.cell? ⟨b, off + j, none⟩ = some u
/-- v is a slice of n elements, whose cells are xs. -/
def Sl (w : World) (v : Value) (n : Nat) (xs : List Value) : Prop := ∃ a cap, v = .slice a n cap ∧ n ≤ cap ∧ cap ≤ maxLen ∧ SlC w a xs
theorem Sl.le {w : World} {v : Value} {n : Nat} {xs : List Value} (h : Sl w v n xs) : n ≤ maxLen := by
  obtain ⟨a, cap, _, h1, h2, _⟩ := h; omega
theorem SlC.fr {L : List Nat} {w w' : World} {a : Option Addr} {xs : List Value} (h : SlC w a xs) (hf : Fr L w w') (hn : ∀ p, a = some p → p.block ∉ L) : SlC w' a xs := by
  rcases h with h | ⟨b, off, rfl, hb, hc⟩
  · exact .inl h
  · have hnl := hn _ rfl
    exact .inr ⟨b, off, rfl, Nat.lt_of_lt_of_le hb hf.size, fun j u hu => (World.cell?_of_block (hf.block b hb hnl)).trans (hc j u hu)⟩
theorem Sl.fr {L : List Nat} {w w' : World} {v : Value} {n : Nat} {xs : List Value} (h : Sl w v n xs) (hf : Fr L w w') (hn : ∀ k, v.ownBlock = some k → k ∉ L) : Sl w' v n xs := by
  obtain ⟨a, cap, rfl, h1, h2, hc⟩ := h
  exact ⟨a, cap, rfl, h1, h2, hc.fr hf (fun p hp => hn p.block (by simp [Value.ownBlock, hp]))⟩
theorem Sl.fr0 {w w' : World} {v : Value} {n : Nat} {xs : List Value} (h : Sl w v n xs) (hf : Fr [] w w') : Sl w' v n xs := h.fr hf (by simp)
theorem Sl.nil (w : World) : Sl w (.slice none 0 0) 0 [] := ⟨none, 0, rfl, Nat.le_refl _, Nat.zero_le _, .inl rfl⟩
theorem Sl.of_owns {w : World} {base : Nat} {e : TypeId} {size : Nat} {v : Value} {n : Nat} {xs : List Value} (h : w.ownsRow base e size v n xs) : Sl w v n xs := by
  rcases h.2 with ⟨rfl, rfl⟩ | ⟨g, cap, cur, rfl, _, hg, hn, hm, hcs, ht⟩
  · have : xs = [] := List.eq_nil_of_length_eq_zero (by simpa using h.1)
    subst this
    exact Sl.nil w
  · refine ⟨_, cap, rfl, hn, hm, .inr ⟨g, 0, rfl, (Array.getElem?_eq_some_iff.1 hg).1, fun j u hu => ?_⟩⟩
    rw [Nat.zero_add, cell_of_row w g j _ e _ hg]
    rw [← ht, List.getElem?_take] at hu
    split at hu
    · simpa using hu
    · cases hu
/-- what lies below the owned rows' base is none of them -/
theorem own_notin {w : World} {base : Nat} {e : TypeId} {size : Nat} {v : Value} {n : Nat} {xs : List Value} (h : w.ownsRow base e size v n xs) {x : Nat} (hx : x < base) : x ∉ v.ownBlock.toList := by
  intro hm
  have := (h.lt x (by simpa using hm)).1
  omega
theorem own_base {w : World} {base : Nat} {e : TypeId} {size : Nat} {v : Value} {n : Nat} {xs : List Value} (h : w.ownsRow base e size v n xs) : ∀ k, v.ownBlock = some k → base ≤ k := fun k hk => (h.lt k hk).1
/-- the owned row is kept -/
theorem owns_fr {L : List Nat} {w w' : World} {base : Nat} {e : TypeId} {size : Nat} {v : Value} {n : Nat} {xs : List Value} (h : w.ownsRow base e size v n xs) (hf : Fr L w w') (hn : ∀ k, v.ownBlock = some k → k ∉ L) : w'.ownsRow base e size v n xs := by
  refine ⟨h.1, ?_⟩
  rcases h.2 with h2 | ⟨g, cap, cur, hv, hb, hg, r⟩
  · exact .inl h2
  · exact .inr ⟨g, cap, cur, hv, hb, (hf.block g (Array.getElem?_eq_some_iff.1 hg).1 (hn g (by simp [hv, Value.ownBlock]))).trans hg, r⟩
theorem owns_setCell {w : World} {base : Nat} {e : TypeId} {size : Nat} {v : Value} {n : Nat} {xs : List Value} (h : w.ownsRow base e size v n xs) {a : Addr} (ha : a.block < base) (u : Value) : (w.setCell a u).ownsRow base e size v n xs :=
  ownsRow_setCell_below h ha u
theorem owns_drew {w : World} {base : Nat} {e : TypeId} {size : Nat} {v : Value} {n : Nat} {xs : List Value} (h : w.ownsRow base e size v n xs) : w.drew.ownsRow base e size v n xs := h
theorem owns_drewN {w : World} {base : Nat} {e : TypeId} {size : Nat} {v : Value} {n : Nat} {xs : List Value} (h : w.ownsRow base e size v n xs) (k : Nat) : (w.drewN k).ownsRow base e size v n xs := h
theorem Sl.drew {w : World} {v : Value} {n : Nat} {xs : List Value} (h : Sl w v n xs) : Sl w.drew v n xs := h
theorem Sl.drewN {w : World} {v : Value} {n : Nat} {xs : List Value} (h : Sl w v n xs) (k : Nat) : Sl (w.drewN k) v n xs := h
theorem owns_base {w : World} {base base' : Nat} {e : TypeId} {size : Nat} {v : Value} {n : Nat} {xs : List Value} (h : w.ownsRow base e size v n xs) (hb : base' ≤ base) : w.ownsRow base' e size v n xs := by
  refine ⟨h.1, ?_⟩
  rcases h.2 with h2 | ⟨g, cap, cur, hv, hbb, r⟩
  · exact .inl h2
  · exact .inr ⟨g, cap, cur, hv, Nat.le_trans hb hbb, r⟩
/-- the cells of a block that has just been laid -/
theorem cells_new {W : World} {n : Nat} (hn : n = W.heap.size) (cs : List Value) (E : TypeId) : ∀ j u, cs[j]? = some u → (W.alloc (.cells cs.toArray E)).cell? ((⟨n, 0, none⟩ : Addr).add j) = some u := by
  subst hn
  intro j u hu
  have hadd : (⟨W.heap.size, 0, none⟩ : Addr).add j = ⟨W.heap.size, j, none⟩ := by unfold Addr.add; split <;> simp_all
  rw [hadd, (Blk.new W cs E).cell j]
  exact hu
/-- 'out = append(out, x)', x one element in a block of its own; out the call's own slice -/
theorem wpList_append1 {P : Program} (T E : TypeId) (z : Value) (size bytes : Nat) (ht : P.underlying T = some (.slice E)) (hinfo : (P.info? E).map (fun i => (i.zero, i.size, i.bytes)) = some (some z, size, bytes))
    (hzs : z.cells.size = size) (hsz : 0 < size) (hby : bytes ≤ 4096) {ops : Array Oper} {rest : List Oper} {o : Oper} {a : Act} {Q : Exit → Act → World → Prop} {w : World} (hgd : o.guard = none) (s x : Operand)
    (ho : o.op = .call { callee := .builtin .append, args := #[s, x], argTypes := #[T, T] }) (base : Nat) (v : Value) (n : Nat) (xs : List Value) (hs : a.eval s = v) (hown : w.ownsRow base E size v n xs)
    (cs : List Value) (hcs : cs.length = size) (h1 : ∀ u ∈ cs, u.oneCell' = true) (nb : Nat) (hx : a.eval x = .slice (some ⟨nb, 0, none⟩) 1 1) {tb : TypeId} (hB : Blk w nb cs tb) (hn : n ≤ 4294967296) (hbase : base ≤ w.heap.size)
    (h : ∀ v' w', w'.ownsRow base E size v' (n + 1) (xs ++ cs) → w.grownBy w' v.ownBlock → (v'.ownBlock = v.ownBlock ∨ v'.ownBlock = some w.heap.size) → wpList P ops Q rest (a.put o.dst v') w') : wpList P ops Q (o :: rest) a w := by
  obtain ⟨i0, hi, hz0, hz1, hz2⟩ := info_parts hinfo
  refine wpList_append_own_at w hgd s x T ho base E i0 z size bytes ht hi hz0 hz1 hz2 hzs hsz v n xs hs hown ⟨nb, 0, none⟩ 1 1 cs hx (by omega) (fun j u hu => ?_) h1 (by unfold maxLen; omega) ?_ hbase (fun v' w' g1 g2 _ g4 => h v' w' g1 g2 g4)
  · have hadd : (⟨nb, 0, none⟩ : Addr).add j = ⟨nb, j, none⟩ := by unfold Addr.add; split <;> simp_all
    rw [hadd, hB.cell j]
    exact hu
  · have : (n + 1) * bytes ≤ 4294967297 * 4096 := Nat.mul_le_mul (by omega) hby
    omega
/-- an operation whose run is known -/
theorem wpList_run {P : Program} {ops : Array Oper} {rest : List Oper} {o : Oper} {a : Act} {Q : Exit → Act → World → Prop} {w w' : World} {v : Value} (hgd : o.guard = none) (hr : (execOp a.eval o).run P w = .ok (.value v) w')
    (h : wpList P ops Q rest (a.put o.dst v) w') : wpList P ops Q (o :: rest) a w :=
  wpList_plain hgd fun K hK => by
    unfold Oper.wp
    rw [hr]
    exact hK _ _ h
theorem wpList_field {P : Program} (T i : Nat) {ops : Array Oper} {rest : List Oper} {o : Oper} {a : Act} {Q : Exit → Act → World → Prop} {w : World} (hgd : o.guard = none) (x : Operand) (ho : o.op = .field T x i) (v : Value) (hx : a.eval x = v) {u : Value}
    (hr : ∀ w, (Instr.field T v i).run P w = .ok u w) (h : wpList P ops Q rest (a.put o.dst u) w) : wpList P ops Q (o :: rest) a w :=
  wpList_plain hgd fun K hK => by
    unfold Oper.wp execOp
    simp only [ho, hx, Sem.run_bind, hr, Result.andThen_ok, Sem.run_pure]
    exact hK _ _ h
/-! ### a region that draws its order: an operation that leaves the world alone -/
theorem wpStill_value {P : Program} {ops : Array Oper} {w : World} {Q : Act → Prop} {a : Act} {o : Oper} {rest : List Oper} (hg : o.guard = none) (v : Value) (hr : (execOp a.eval o).run P w = .ok (.value v) w)
    (h : wpStill P ops w Q rest (a.put o.dst v)) : wpStill P ops w Q (o :: rest) a :=
  wpStill_step fun K hK => by
    simp only [Region.wanted, hg, if_true, Oper.still, hr, Oper.stillUpon_value]
    exact hK _ h
/-! ### small ones for a walk's end -/
theorem hidIt {p : Prop} (h : p) : Hid p := h
theorem ret_bool {a b : Bool} (h : a = b) : Ending.returned (.bool a) = Ending.returned (.bool b) := by rw [h]
theorem ret_int {k : IntKind} {a b : Int} (h : a = b) : Ending.returned (.int k a) = Ending.returned (.int k b) := by rw [h]
theorem ret_val {a b : Value} (h : a = b) : Ending.returned a = Ending.returned b := by rw [h]
end Go.Proofs.YtiifmakhfpllnaaGreat

namespace Go.Proofs.YtiifmakhfpllnaaGreat
open Go.RowKit Go.Maps Go.MapKept

/-- The map in block b, if block b is one. -/
def mapAt (w : World) (b : Nat) : Option (Array MapEntry × Nat) :=
  match w.heap[b]? with
  | some (.map es clock) => some (es, clock)
  | _ => none
theorem mapAt_some {w : World} {b : Nat} {es : Array MapEntry} {c : Nat} : mapAt w b = some (es, c) ↔ w.heap[b]? = some (.map es c) := by
  unfold mapAt
  split <;> simp_all
/-- the world with another map in block b -/
def putMap (w : World) (b : Nat) (es : Array MapEntry) (c : Nat) : World := { w with heap := w.heap.setIfInBounds b (.map es c) }
theorem mapAt_lt {w : World} {b : Nat} {x : Array MapEntry × Nat} (h : mapAt w b = some x) : b < w.heap.size := by
  obtain ⟨es, c⟩ := x
  exact (Array.getElem?_eq_some_iff.1 (mapAt_some.1 h)).1
theorem mapAt_putMap {w : World} {b : Nat} (h : b < w.heap.size) (es : Array MapEntry) (c : Nat) : mapAt (putMap w b es c) b = some (es, c) := by
  rw [mapAt_some]; simp [putMap, h]
theorem putMap_fr (w : World) (b : Nat) (es : Array MapEntry) (c : Nat) : Fr [b] w (putMap w b es c) :=
  ⟨rfl, rfl, rfl, by simp [putMap], fun k _ hn => by simp [putMap, Array.getElem?_setIfInBounds]; intro e; simp [e] at hn⟩
theorem mapAt_alloc {w : World} {b : Nat} (o : Obj) (h : b < w.heap.size) : mapAt (w.alloc o) b = mapAt w b := by
  unfold mapAt; rw [Below.heap_alloc w o b h]
theorem mapAt_setCell {w : World} {b : Nat} (p : Addr) (v : Value) : mapAt (w.setCell p v) b = mapAt w b := by
  unfold mapAt
  simp only [World.setCell, Array.getElem?_modify]
  by_cases h : p.block = b
  · rw [if_pos h]
    cases hx : w.heap[b]? with
    | none => simp
    | some o => cases o <;> simp
  · rw [if_neg h]
theorem mapAt_drew {w : World} {b : Nat} : mapAt w.drew b = mapAt w b := rfl
theorem mapAt_drewN {w : World} {b n : Nat} : mapAt (w.drewN n) b = mapAt w b := rfl
theorem mapAt_fr {L : List Nat} {w w' : World} {b : Nat} {x : Array MapEntry × Nat} (h : mapAt w b = some x) (hf : Fr L w w') (hn : b ∉ L) : mapAt w' b = some x := by
  obtain ⟨es, c⟩ := x
  exact mapAt_some.2 ((hf.block b (mapAt_lt h) hn).trans (mapAt_some.1 h))

/-- es is a map that holds m. -/
structure IsM (P : Program) (K : TypeId) (es : Array MapEntry) (clock : Nat) (m : Value → Option Value) : Prop where
  keys : ∀ e ∈ es.toList, ∃ l, keyOf P K e.key = some l
  apart : es.toList.Pairwise (fun a b => a.key ≠ b.key)
  get : ∀ x v, m x = some v ↔ ∃ e ∈ es.toList, e.key = x ∧ e.val = v
  born : ∀ e ∈ es.toList, e.born < clock
  stamps : es.toList.Pairwise (fun a b => a.born ≠ b.born)

open Classical in
noncomputable def upd (m : Value → Option Value) (k : Value) (v : Option Value) : Value → Option Value := fun x => if x = k then v else m x
theorem upd_same (m : Value → Option Value) (k : Value) (v : Option Value) : upd m k v k = v := by simp [upd]
theorem upd_other (m : Value → Option Value) {k x : Value} (v : Option Value) (h : x ≠ k) : upd m k v x = m x := by simp [upd, h]

section
variable {P : Program} {K : TypeId} {es : Array MapEntry} {clock : Nat} {m : Value → Option Value}
theorem IsM.empty : IsM P K #[] 0 (fun _ => none) := ⟨by simp, by simp, by simp, by simp, by simp⟩
theorem IsM.none_iff (h : IsM P K es clock m) (x : Value) : m x = none ↔ ∀ e ∈ es.toList, e.key ≠ x := by
  constructor
  · intro hn e he hk
    have := (h.get x e.val).2 ⟨e, he, hk, rfl⟩
    rw [hn] at this; cases this
  · intro ha
    cases hv : m x with
    | none => rfl
    | some v => obtain ⟨e, he, hk, _⟩ := (h.get x v).1 hv; exact absurd hk (ha e he)
/-- what a look-up finds -/
theorem IsM.find (h : IsM P K es clock m) (Ky : Keyed P K) (w : World) {x : Value} {lx : Lit} (hx : keyOf P K x = some lx) :
    ((Instr.findKey K x es.toList).run P w = .ok none w ∧ m x = none) ∨
    ∃ j e, (Instr.findKey K x es.toList).run P w = .ok (some (j, e.val)) w ∧ es[j]? = some e ∧ e.key = x ∧ m x = some e.val := by
  rcases Ky.find w hx es.toList h.keys with ⟨hr, hn⟩ | ⟨j, e, hr, hj, he⟩
  · exact .inl ⟨hr, (h.none_iff x).2 hn⟩
  · have hj' : es[j]? = some e := by simpa using hj
    exact .inr ⟨j, e, hr, hj', he, (h.get x e.val).2 ⟨e, List.mem_of_getElem? hj, he, rfl⟩⟩
/-- 'm[k]', 'v, ok := m[k]' -/
theorem run_lookup_isM {T E : TypeId} (ht : P.underlying T = some (.map K E)) (Ky : Keyed P K) (h : IsM P K es clock m) {z : Value} (c : Bool) {x : Value} {lx : Lit} (hx : keyOf P K x = some lx)
    (w : World) (hz : (zeroValue E).run P w = .ok z w) {b : Nat} (hb : mapAt w b = some (es, clock)) :
    (Instr.lookup T (.map (some b)) x c).run P w = .ok (if c then .tuple #[(m x).getD z, .bool (m x).isSome] else (m x).getD z) w := by
  have hb' := mapAt_some.1 hb
  have hck := Ky.check w es.isEmpty hx
  rcases h.find Ky w hx with ⟨hr, hn⟩ | ⟨j, e, hr, _, _, hv⟩
  · simp only [Instr.lookup, Sem.run_bind, run_underlying ht, Result.andThen_ok]
    simp [getObj, Sem.run, hb', hck, hr, hz, hn, Result.andThen]
  · simp only [Instr.lookup, Sem.run_bind, run_underlying ht, Result.andThen_ok]
    simp [getObj, Sem.run, hb', hck, hr, hv, Result.andThen]
/-- a look-up in a nil map -/
theorem run_lookup_nil {T E : TypeId} (ht : P.underlying T = some (.map K E)) (Ky : Keyed P K) {z : Value} (c : Bool) {x : Value} {lx : Lit} (hx : keyOf P K x = some lx)
    (w : World) (hz : (zeroValue E).run P w = .ok z w) :
    (Instr.lookup T (.map none) x c).run P w = .ok (if c then .tuple #[z, .bool false] else z) w := by
  have hck := Ky.check w true hx
  rcases Ky.find w hx [] (by simp) with ⟨hr, _⟩ | ⟨j, e, _, hj, _⟩
  · simp only [Instr.lookup, Sem.run_bind, run_underlying ht, Result.andThen_ok]
    simp [hck, hr, hz, Result.andThen]
  · simp at hj
/-- 'm[k] = v' -/
theorem run_mapUpdate_isM {T E : TypeId} (ht : P.underlying T = some (.map K E)) (Ky : Keyed P K) (h : IsM P K es clock m) {x : Value} {lx : Lit} (hx : keyOf P K x = some lx) (v : Value)
    (w : World) {b : Nat} (hb : mapAt w b = some (es, clock)) :
    ∃ es' clock', (Instr.mapUpdate T (.map (some b)) x v).run P w = .ok () (putMap w b es' clock') ∧ IsM P K es' clock' (upd m x (some v)) := by
  have hb' := mapAt_some.1 hb
  have hck := Ky.check w false hx
  rcases h.find Ky w hx with ⟨hr, hn⟩ | ⟨j, e, hr, hj, he, hv⟩
  · refine ⟨es.push { key := x, val := v, born := clock }, clock + 1, ?_, ?_, ?_, ?_, ?_, ?_⟩
    · simp only [Instr.mapUpdate, Sem.run_bind, run_underlying ht, Result.andThen_ok]
      simp [getObj, setObj, Sem.run, hb', hck, hr, Result.andThen, putMap]
    · intro e he
      simp at he
      rcases he with he | rfl
      · exact h.keys e (by simpa using he)
      · exact ⟨lx, hx⟩
    · simp only [Array.toList_push, List.pairwise_append]
      refine ⟨h.apart, by simp, fun a ha b hb => ?_⟩
      simp at hb
      subst hb
      exact ((h.none_iff x).1 hn) a ha
    · intro y u
      by_cases hy : y = x
      · subst hy
        rw [upd_same]
        constructor
        · intro hu
          cases hu
          exact ⟨{ key := y, val := v, born := clock }, by simp, rfl, rfl⟩
        · rintro ⟨e, he, hk, hv⟩
          rw [Array.toList_push, List.mem_append] at he
          rcases he with he | he
          · exact absurd hk ((h.none_iff y).1 hn e he)
          · rw [List.mem_singleton] at he
            subst he
            exact congrArg some hv
      · rw [upd_other _ _ hy, h.get]
        constructor
        · rintro ⟨e, he, hk, hv⟩
          exact ⟨e, by rw [Array.toList_push, List.mem_append]; exact .inl he, hk, hv⟩
        · rintro ⟨e, he, hk, hv⟩
          rw [Array.toList_push, List.mem_append] at he
          rcases he with he | he
          · exact ⟨e, he, hk, hv⟩
          · rw [List.mem_singleton] at he
            subst he
            exact absurd hk.symm hy
    · intro e he
      simp at he
      rcases he with he | rfl
      · exact Nat.lt_succ_of_lt (h.born e (by simpa using he))
      · exact Nat.lt_succ_self _
    · simp only [Array.toList_push, List.pairwise_append]
      refine ⟨h.stamps, by simp, fun a ha b hb => ?_⟩
      simp at hb
      subst hb
      exact Nat.ne_of_lt (h.born a ha)
  · have hst := Ky.stays w hx
    have hlt : j < es.size := (Array.getElem?_eq_some_iff.1 hj).1
    have hje : es[j] = e := (Array.getElem?_eq_some_iff.1 hj).2
    refine ⟨es.modify j fun e => { e with key := x, val := v }, clock, ?_, ?_⟩
    · simp only [Instr.mapUpdate, Sem.run_bind, run_underlying ht, Result.andThen_ok]
      simp [getObj, setObj, Sem.run, hb', hck, hr, Result.andThen, putMap, hj, he, hst]
    · have hkey : ∀ i (hi : i < (es.modify j fun e => { e with key := x, val := v }).size), ((es.modify j fun e => { e with key := x, val := v })[i]).key = (es[i]'(by simpa using hi)).key ∧ ((es.modify j fun e => { e with key := x, val := v })[i]).born = (es[i]'(by simpa using hi)).born ∧
          (i ≠ j → (es.modify j fun e => { e with key := x, val := v })[i] = es[i]'(by simpa using hi)) := by
        intro i hi
        rw [Array.getElem_modify]
        split
        · rename_i hij
          subst hij
          exact ⟨by simp [hje, he], rfl, fun hne => absurd rfl hne⟩
        · exact ⟨rfl, rfl, fun _ => rfl⟩
      have hj2 : j < (es.modify j fun e => { e with key := x, val := v }).size := by simpa using hlt
      have hat : (es.modify j fun e => { e with key := x, val := v })[j] = { key := x, val := v, born := e.born } := by
        rw [Array.getElem_modify, if_pos rfl, hje]
      refine ⟨?_, ?_, ?_, ?_, ?_⟩
      · intro e' he'
        obtain ⟨i, hi, rfl⟩ := List.getElem_of_mem he'
        have hi' : i < (es.modify j fun e => { e with key := x, val := v }).size := by simpa using hi
        have := (hkey i hi').1
        rw [Array.getElem_toList, this]
        exact h.keys _ (by simp)
      · rw [List.pairwise_iff_getElem]
        intro i k hi hk hik
        rw [Array.getElem_toList, Array.getElem_toList, (hkey i (by simpa using hi)).1, (hkey k (by simpa using hk)).1]
        have := (List.pairwise_iff_getElem.1 h.apart) i k (by simpa using hi) (by simpa using hk) hik
        simpa using this
      · intro y u
        by_cases hy : y = x
        · subst hy
          rw [upd_same]
          constructor
          · intro hu
            simp at hu
            subst hu
            exact ⟨_, Array.mem_toList_iff.2 (Array.getElem_mem hj2), by rw [hat], by rw [hat]⟩
          · rintro ⟨e', he', hk, rfl⟩
            obtain ⟨i, hi, rfl⟩ := List.getElem_of_mem he'
            have hi' : i < (es.modify j fun e => { e with key := y, val := v }).size := by simpa using hi
            rw [Array.getElem_toList] at hk ⊢
            have hij : i = j := by
              have hki := (hkey i hi').1
              rw [hki] at hk
              rcases Nat.lt_trichotomy i j with hlt' | heq | hgt
              · exact absurd (by rw [Array.getElem_toList, Array.getElem_toList, hk, hje, he]) ((List.pairwise_iff_getElem.1 h.apart) i j (by simpa using hi') (by simpa using hlt) hlt')
              · exact heq
              · exact absurd (by rw [Array.getElem_toList, Array.getElem_toList, hk, hje, he]) ((List.pairwise_iff_getElem.1 h.apart) j i (by simpa using hlt) (by simpa using hi') hgt)
            subst hij
            rw [hat]
        · rw [upd_other _ _ hy, h.get]
          constructor
          · rintro ⟨e', he', hk, hv'⟩
            obtain ⟨i, hi, rfl⟩ := List.getElem_of_mem he'
            rw [Array.getElem_toList] at hk hv'
            have hi0 : i < es.size := by simpa using hi
            have hij : i ≠ j := by rintro rfl; rw [hje, he] at hk; exact hy hk.symm
            have := (hkey i (by simpa using hi0)).2.2 hij
            exact ⟨_, by rw [Array.mem_toList_iff]; exact Array.getElem_mem (by simpa using hi0), by rw [this]; exact hk, by rw [this]; exact hv'⟩
          · rintro ⟨e', he', hk, hv'⟩
            obtain ⟨i, hi, rfl⟩ := List.getElem_of_mem he'
            rw [Array.getElem_toList] at hk hv'
            have hi' : i < (es.modify j fun e => { e with key := x, val := v }).size := by simpa using hi
            have hij : i ≠ j := by rintro rfl; rw [hat] at hk; exact hy hk.symm
            have := (hkey i hi').2.2 hij
            rw [this] at hk hv'
            exact ⟨_, by rw [Array.mem_toList_iff]; exact Array.getElem_mem (by simpa using hi'), hk, hv'⟩
      · intro e' he'
        obtain ⟨i, hi, rfl⟩ := List.getElem_of_mem he'
        rw [Array.getElem_toList, (hkey i (by simpa using hi)).2.1]
        exact h.born _ (by simp)
      · rw [List.pairwise_iff_getElem]
        intro i k hi hk hik
        rw [Array.getElem_toList, Array.getElem_toList, (hkey i (by simpa using hi)).2.1, (hkey k (by simpa using hk)).2.1]
        have := (List.pairwise_iff_getElem.1 h.stamps) i k (by simpa using hi) (by simpa using hk) hik
        simpa using this
/-- 'delete(m, k)' -/
theorem run_delete_isM {T E A2 : TypeId} {ty : TypeId} (ht : P.underlying T = some (.map K E)) (Ky : Keyed P K) (h : IsM P K es clock m) {x : Value} {lx : Lit} (hx : keyOf P K x = some lx)
    (w : World) {b : Nat} (hb : mapAt w b = some (es, clock)) :
    ∃ es', (Builtin.delete_ #[T, A2] ty #[.map (some b), x]).run P w = .ok (.tuple #[]) (putMap w b es' clock) ∧ IsM P K es' clock (upd m x none) ∧ es'.toList.Sublist es.toList := by
  have hb' := mapAt_some.1 hb
  have hck := Ky.check w es.isEmpty hx
  rcases h.find Ky w hx with ⟨hr, hn⟩ | ⟨j, e, hr, hj, he, hv⟩
  · refine ⟨es, ?_, ⟨h.keys, h.apart, ?_, h.born, h.stamps⟩, List.Sublist.refl _⟩
    · simp [Builtin.delete_, run_underlying ht, getObj, setObj, Sem.run, hb', hck, hr, Result.andThen, putMap]
    · intro y u
      by_cases hy : y = x
      · subst hy
        rw [upd_same, ← hn, h.get]
      · rw [upd_other _ _ hy, h.get]
  · have hlt : j < es.size := (Array.getElem?_eq_some_iff.1 hj).1
    have hje : es[j] = e := (Array.getElem?_eq_some_iff.1 hj).2
    have hl : (es.eraseIdxIfInBounds j).toList = es.toList.eraseIdx j := by simp [Array.eraseIdxIfInBounds, hlt]
    have hsub : (es.toList.eraseIdx j).Sublist es.toList := List.eraseIdx_sublist ..
    refine ⟨es.eraseIdxIfInBounds j, ?_, ⟨?_, ?_, ?_, ?_, ?_⟩, by rw [hl]; exact hsub⟩
    · simp [Builtin.delete_, run_underlying ht, getObj, setObj, Sem.run, hb', hck, hr, Result.andThen, putMap]
    · intro e' he'
      rw [hl] at he'
      exact h.keys e' (hsub.subset he')
    · rw [hl]; exact h.apart.sublist hsub
    · intro y u
      rw [hl]
      by_cases hy : y = x
      · subst hy
        rw [upd_same]
        constructor
        · intro h'; cases h'
        · rintro ⟨e', he', hk, _⟩
          exfalso
          rw [List.mem_eraseIdx_iff_getElem] at he'
          obtain ⟨i, hi, hne, rfl⟩ := he'
          rcases Nat.lt_trichotomy i j with hlt' | heq | hgt
          · exact absurd (by rw [hk, Array.getElem_toList, hje, he]) ((List.pairwise_iff_getElem.1 h.apart) i j hi (by simpa using hlt) hlt')
          · exact hne heq
          · exact absurd (by rw [hk, Array.getElem_toList, hje, he]) ((List.pairwise_iff_getElem.1 h.apart) j i (by simpa using hlt) hi hgt)
      · rw [upd_other _ _ hy, h.get]
        constructor
        · rintro ⟨e', he', hk, hv'⟩
          refine ⟨e', ?_, hk, hv'⟩
          obtain ⟨i, hi, rfl⟩ := List.getElem_of_mem he'
          rw [List.mem_eraseIdx_iff_getElem]
          refine ⟨i, hi, ?_, rfl⟩
          rintro rfl
          rw [Array.getElem_toList, hje, he] at hk
          exact hy hk.symm
        · rintro ⟨e', he', hk, hv'⟩
          exact ⟨e', hsub.subset he', hk, hv'⟩
    · intro e' he'
      rw [hl] at he'
      exact h.born e' (hsub.subset he')
    · rw [hl]; exact h.stamps.sublist hsub
/-- 'len(m)' -/
theorem run_len_map {T : TypeId} {ty : TypeId} {E : TypeId} (ht : P.underlying T = some (.map K E)) (w : World) {b : Nat} (hb : mapAt w b = some (es, clock)) :
    (Builtin.len_ #[T] ty #[.map (some b)]).run P w = .ok (.int .i64 es.size) w := by
  have hb' := mapAt_some.1 hb
  simp [Builtin.len_, run_underlying ht, getObj, Sem.run, hb', goInt]
/-- how many entries there are: as many as keys -/
theorem IsM.size (h : IsM P K es clock m) {ks : List Value} (hd : ks.Pairwise (· ≠ ·)) (hk : ∀ x, x ∈ ks ↔ (m x).isSome = true) : es.size = ks.length := by
  have hp : (es.toList.map (·.key)).Perm ks := by
    have h1 : (es.toList.map (·.key)).Nodup := by rw [List.Nodup, List.pairwise_map]; exact h.apart
    classical
    rw [List.perm_ext_iff_of_nodup h1 hd]
    intro x
    rw [hk]
    simp only [List.mem_map]
    constructor
    · rintro ⟨e, he, rfl⟩
      rw [(h.get e.key e.val).2 ⟨e, he, rfl, rfl⟩]; rfl
    · intro hx
      obtain ⟨v, hv⟩ := Option.isSome_iff_exists.1 hx
      obtain ⟨e, he, hk', _⟩ := (h.get x v).1 hv
      exact ⟨e, he, hk'⟩
  have := hp.length_eq
  simpa using this
/-- 'delete' at its operation -/
theorem wpList_delete_isM {ops : Array Oper} {rest : List Oper} {o : Oper} {a : Act} {Q : Exit → Act → World → Prop} {w : World} (hg : o.guard = none) (x y : Operand) (T A2 : TypeId)
    (ho : o.op = .call { callee := .builtin .delete, args := #[x, y], argTypes := #[T, A2] }) {E : TypeId} (ht : P.underlying T = some (.map K E)) (Ky : Keyed P K) (h : IsM P K es clock m) (b : Nat)
    (hx : a.eval x = .map (some b)) (k : Value) (hy : a.eval y = k) {lx : Lit} (hk : keyOf P K k = some lx) (hb : mapAt w b = some (es, clock))
    (hK : ∀ es', IsM P K es' clock (upd m k none) → wpList P ops Q rest (a.put o.dst (.tuple #[])) (putMap w b es' clock)) : wpList P ops Q (o :: rest) a w :=
  wpList_plain hg fun K' hK' => by
    obtain ⟨es', hr, hi, _⟩ := run_delete_isM (P := P) (A2 := A2) (ty := o.type) ht Ky h hk w hb
    unfold Oper.wp execOp
    simp only [ho, resolve, invoke, builtin, Sem.run_bind, Sem.run_pure, Result.andThen_ok, List.map_toArray, List.map_cons, List.map_nil, hx, hy, hr]
    exact hK' _ _ (hK es' hi)
/-- a store into a map at its operation -/
theorem wpList_mapUpdate_isM {ops : Array Oper} {rest : List Oper} {o : Oper} {a : Act} {Q : Exit → Act → World → Prop} {w : World} (hg : o.guard = none) (x y z : Operand) (T : TypeId)
    (ho : o.op = .mapUpdate T x y z) {E : TypeId} (ht : P.underlying T = some (.map K E)) (Ky : Keyed P K) (h : IsM P K es clock m) (b : Nat)
    (hx : a.eval x = .map (some b)) (k : Value) (hy : a.eval y = k) (v : Value) (hz : a.eval z = v) {lx : Lit} (hk : keyOf P K k = some lx) (hb : mapAt w b = some (es, clock))
    (hK : ∀ es' clock', IsM P K es' clock' (upd m k (some v)) → wpList P ops Q rest (a.put o.dst undef) (putMap w b es' clock')) : wpList P ops Q (o :: rest) a w :=
  wpList_plain hg fun K' hK' => by
    obtain ⟨es', clock', hr, hi⟩ := run_mapUpdate_isM (P := P) ht Ky h hk v w hb
    unfold Oper.wp execOp
    simp only [ho, hx, hy, hz, Sem.run_bind, Sem.run_pure, Result.andThen_ok, hr]
    exact hK' _ _ (hK es' clock' hi)
end
end Go.Proofs.YtiifmakhfpllnaaGreat

namespace Go.Proofs.YtiifmakhfpllnaaGreat

/-- how many granules there are -/
def gran (S g : Nat) : Nat := (S + g - 1) / g
theorem ceil_lt {X g k : Nat} (hg : 0 < g) : k < (X + g - 1) / g ↔ k * g < X := by
  rw [Nat.lt_div_iff_mul_lt hg]
  omega
theorem div_le {X g k : Nat} (hg : 0 < g) : X / g ≤ k ↔ X < k * g + g := by
  rw [← Nat.lt_succ_iff, Nat.div_lt_iff_lt_mul hg, Nat.succ_mul]
theorem ceil_le {X g k : Nat} (hg : 0 < g) : (X + g - 1) / g ≤ k ↔ X ≤ k * g := by
  have := @ceil_lt X g k hg
  omega
theorem lt_div {X g k : Nat} (hg : 0 < g) : k < X / g ↔ k * g + g ≤ X := by
  have := @div_le X g k hg
  omega
/-- has granule k a sector that is among them? are all its sectors? -/
def oneB (S g f n k : Nat) : Bool := decide (max (k * g) f < min (min (k * g + g) S) (f + n))
def allB (S g f n k : Nat) : Bool := decide (f ≤ k * g) && decide (min (k * g + g) S ≤ f + n)
theorem one_iff {S g f n k : Nat} (hg : 0 < g) (hk : k * g < S) (hin : f + n ≤ S) : oneB S g f n k = true ↔ n ≠ 0 ∧ f / g ≤ k ∧ k < (f + n + g - 1) / g := by
  rw [div_le hg, ceil_lt hg]
  simp only [oneB, decide_eq_true_eq]
  omega
theorem all_iff {S g f n k : Nat} (hg : 0 < g) (hk : k * g < S) (hin : f + n ≤ S) : allB S g f n k = true ↔ (f + g - 1) / g ≤ k ∧ k < (if f + n = S then gran S g else (f + n) / g) := by
  rw [ceil_le hg]
  simp only [allB, Bool.and_eq_true, decide_eq_true_eq]
  split
  · unfold gran
    rw [ceil_lt hg]
    omega
  · rw [lt_div hg]
    omega
/-- where 's' lies -/
theorem gran_at {S g s : Nat} (hg : 0 < g) (hs : s < S) : s / g < gran S g := by
  unfold gran
  rw [ceil_lt hg]
  exact Nat.lt_of_le_of_lt (Nat.div_mul_le_self s g) hs
def bSet (S g : Nat) (l : List Bool) (f n : Nat) : List Bool := (List.range l.length).map fun k => oneB S g f n k || l.getD k false
def bClear (S g : Nat) (l : List Bool) (f n : Nat) : List Bool := (List.range l.length).map fun k => !allB S g f n k && l.getD k false
end Go.Proofs.YtiifmakhfpllnaaGreat

namespace Go.Proofs.YtiifmakhfpllnaaGreat

/-- what a name may be -/
def okSign (x : UInt8) : Bool := (decide (97 ≤ x.toNat) && decide (x.toNat ≤ 122)) || (decide (48 ≤ x.toNat) && decide (x.toNat ≤ 57)) || decide (x.toNat = 46) || decide (x.toNat = 45)
def okName (s : List UInt8) : Bool := s.all okSign && decide (1 ≤ s.length) && decide (s.length ≤ 15)
theorem okName_len {s : List UInt8} (h : okName s = true) : s.length ≤ 15 := by
  unfold okName at h
  simp at h
  exact h.2
end Go.Proofs.YtiifmakhfpllnaaGreat

namespace Go.Proofs.YtiifmakhfpllnaaGreat
open Go.RowKit

/-- a slot: Kind, Host, Own -/
abbrev Slt := Int × Int × Bool
def zS : Slt := (0, 0, false)
def rightS (s : Slt) : Bool := if s.1 = 1 then decide (0 ≤ s.2.1) && decide (s.2.1 < 512) else (decide (s.1 = 0) || decide (s.1 = 2)) && decide (s.2.1 = 0) && !s.2.2
theorem rightS_zS : rightS zS = true := rfl
theorem right_hole {s : Slt} (h : rightS s = true) (h0 : s.1 = 0) : s = zS := by
  obtain ⟨a, b, c⟩ := s
  simp only at h0
  subst h0
  simp [rightS] at h
  simp [zS, h.1, h.2]
abbrev slotC (s : Slt) : List Value := [.int .i64 s.1, .int .i64 s.2.1, .bool s.2.2]
abbrev slotV (s : Slt) : Value := .agg #[.int .i64 s.1, .int .i64 s.2.1, .bool s.2.2]
def sEq (a b : Slt) : Bool := decide (a.1 = b.1) && decide (a.2.1 = b.2.1) && (a.2.2 == b.2.2)
theorem sEq_iff (a b : Slt) : sEq a b = true ↔ a = b := by
  obtain ⟨a1, a2, a3⟩ := a; obtain ⟨b1, b2, b3⟩ := b
  simp [sEq, and_assoc]
theorem sEq_self (a : Slt) : sEq a a = true := (sEq_iff a a).2 rfl

/-- the slot of a cluster -/
def tget (l : List Slt) (c : Int) : Slt := if 0 ≤ c then l.getD c.toNat zS else zS
theorem tget_nat (l : List Slt) (n : Nat) : tget l (n : Int) = l.getD n zS := by simp [tget]
theorem tget_out {l : List Slt} {c : Int} (h : c < 0 ∨ (l.length : Int) ≤ c) : tget l c = zS := by
  unfold tget
  split
  · rw [List.getD_eq_getElem?_getD, List.getElem?_eq_none (by omega)]; rfl
  · rfl
theorem right_getD {l : List Slt} (h : ∀ s ∈ l, rightS s = true) (n : Nat) : rightS (l.getD n zS) = true := by
  rw [List.getD_eq_getElem?_getD]
  cases hx : l[n]? with
  | none => rfl
  | some s => exact h s (List.mem_of_getElem? hx)
theorem right_tget {l : List Slt} (h : ∀ s ∈ l, rightS s = true) (c : Int) : rightS (tget l c) = true := by
  unfold tget; split; exact right_getD h _; rfl
def tSet (l : List Slt) (c : Int) (s : Slt) : List Slt × Slt × Int :=
  if 0 ≤ c ∧ c < l.length ∧ rightS s = true then (l.set c.toNat s, tget l c, 0) else (l, zS, 1)
def tResize (l : List Slt) (n : Int) : List Slt × List Slt × Int :=
  if 0 ≤ n ∧ n ≤ 256 then (l.take n.toNat ++ List.replicate (n.toNat - l.length) zS, (l.drop n.toNat).filter (fun s => s.1 != 0), 0) else (l, [], 1)
/-- a call: its kind, its number, its slot -/
abbrev Opr := Int × Int × Slt
abbrev opC (o : Opr) : List Value := [.int .i64 o.1, .int .i64 o.2.1, .int .i64 o.2.2.1, .int .i64 o.2.2.2.1, .bool o.2.2.2.2]
abbrev opV (o : Opr) : Value := .agg #[.int .i64 o.1, .int .i64 o.2.1, .int .i64 o.2.2.1, .int .i64 o.2.2.2.1, .bool o.2.2.2.2]
def tDo (l : List Slt) (o : Opr) : List Slt × List Slt × Int :=
  if o.1 = 0 then ((tSet l o.2.1 o.2.2).1, [(tSet l o.2.1 o.2.2).2.1], (tSet l o.2.1 o.2.2).2.2)
  else if o.1 = 1 then tResize l o.2.1 else (l, [], 0)
theorem tSet_right {l : List Slt} {c : Int} {s : Slt} (h : ∀ s ∈ l, rightS s = true) : ∀ x ∈ (tSet l c s).1, rightS x = true := by
  unfold tSet
  split
  · rename_i hc
    intro x hx
    rcases List.mem_or_eq_of_mem_set hx with hx | rfl
    · exact h x hx
    · exact hc.2.2
  · exact h
theorem tResize_right {l : List Slt} {n : Int} (h : ∀ s ∈ l, rightS s = true) : ∀ x ∈ (tResize l n).1, rightS x = true := by
  unfold tResize
  split
  · intro x hx
    simp only [List.mem_append, List.mem_replicate] at hx
    rcases hx with hx | ⟨_, rfl⟩
    · exact h x (List.mem_of_mem_take hx)
    · rfl
  · exact h
theorem tDo_right {l : List Slt} {o : Opr} (h : ∀ s ∈ l, rightS s = true) : ∀ x ∈ (tDo l o).1, rightS x = true := by
  unfold tDo
  split
  · exact tSet_right h
  · split
    · exact tResize_right h
    · exact h
theorem tSet_len {l : List Slt} {c : Int} {s : Slt} : (tSet l c s).1.length = l.length := by
  unfold tSet; split <;> simp
theorem tResize_len {l : List Slt} {n : Int} (h : 0 ≤ n ∧ n ≤ 256) : (tResize l n).1.length = n.toNat := by
  unfold tResize; rw [if_pos h]; simp; omega
theorem tDo_len {l : List Slt} {o : Opr} (h : l.length ≤ 256) : (tDo l o).1.length ≤ 256 := by
  unfold tDo
  split
  · rw [tSet_len]; exact h
  · split
    · by_cases hn : 0 ≤ o.2.1 ∧ o.2.1 ≤ 256
      · rw [tResize_len hn]; omega
      · unfold tResize; rw [if_neg hn]; exact h
    · exact h

/-! ### groups -/
/-- the group of Holes alone -/
def zG : List Slt := List.replicate 16 zS
theorem zG_length : zG.length = 16 := by simp [zG]
/-- the slots of group k -/
def grp (l : List Slt) (k : Nat) : List Slt := (List.range 16).map fun i => l.getD (16 * k + i) zS
theorem grp_length (l : List Slt) (k : Nat) : (grp l k).length = 16 := by simp [grp]
theorem grp_getD (l : List Slt) (k i : Nat) (h : i < 16) : (grp l k).getD i zS = l.getD (16 * k + i) zS := by
  rw [List.getD_eq_getElem?_getD, List.getElem?_eq_getElem (by rw [grp_length]; exact h)]
  simp [grp]
def keptG (l : List Slt) (k : Nat) : Bool := (grp l k).any fun s => s.1 != 0
def groups (l : List Slt) : Nat := ((List.range 16).filter (keptG l)).length
theorem kept_false {l : List Slt} {k : Nat} (hr : ∀ s ∈ l, rightS s = true) (h : keptG l k = false) : grp l k = zG := by
  rw [zG, List.eq_replicate_iff]
  refine ⟨grp_length l k, fun s hs => ?_⟩
  have h1 : ¬ (s.1 != 0) = true := by
    have := List.any_eq_false.1 h s hs
    exact this
  have h0 : s.1 = 0 := by simpa using h1
  obtain ⟨i, _, rfl⟩ := List.mem_map.1 hs
  exact right_hole (right_getD hr _) h0
theorem kept_iff {l : List Slt} {k : Nat} (hr : ∀ s ∈ l, rightS s = true) : keptG l k = true ↔ grp l k ≠ zG := by
  constructor
  · intro h e
    unfold keptG at h
    rw [e] at h
    simp [zG, zS] at h
  · intro h
    cases hk : keptG l k with
    | true => rfl
    | false => exact absurd (kept_false hr hk) h
theorem getD_set (l : List Slt) (c n : Nat) (s : Slt) (hc : c < l.length) : (l.set c s).getD n zS = if n = c then s else l.getD n zS := by
  rw [List.getD_eq_getElem?_getD, List.getElem?_set, List.getD_eq_getElem?_getD]
  by_cases h : c = n
  · subst h; simp [hc]
  · rw [if_neg h, if_neg (fun e => h e.symm)]
theorem grp_set_same (l : List Slt) (c : Nat) (s : Slt) (hc : c < l.length) : grp (l.set c s) (c / 16) = (grp l (c / 16)).set (c % 16) s := by
  apply List.ext_getElem
  · simp [grp_length]
  · intro i h1 h2
    rw [grp_length] at h1
    rw [List.getElem_set]
    simp only [grp, List.getElem_map, List.getElem_range]
    rw [getD_set _ _ _ _ hc]
    by_cases h : c % 16 = i
    · rw [if_pos (by omega), if_pos h]
    · rw [if_neg (by omega), if_neg h]
theorem grp_set_other (l : List Slt) (c k : Nat) (s : Slt) (hc : c < l.length) (hk : k ≠ c / 16) : grp (l.set c s) k = grp l k := by
  unfold grp
  apply List.map_congr_left
  intro i hi
  rw [List.mem_range] at hi
  rw [getD_set _ _ _ _ hc, if_neg (by omega)]
theorem kept_set_other (l : List Slt) (c k : Nat) (s : Slt) (hc : c < l.length) (hk : k ≠ c / 16) : keptG (l.set c s) k = keptG l k := by
  unfold keptG; rw [grp_set_other l c k s hc hk]
theorem grp_tget {l : List Slt} {c : Int} (h0 : 0 ≤ c) : (grp l (c / 16).toNat).getD (c % 16).toNat zS = tget l c := by
  rw [grp_getD _ _ _ (by omega), tget, if_pos h0]
  congr 1
  omega
end Go.Proofs.YtiifmakhfpllnaaGreat

namespace Go.Proofs.YtiifmakhfpllnaaGreat
open Go.RowKit

theorem flat_at {α : Type} (f : α → List Value) (n : Nat) (hf : ∀ x, (f x).length = n) : ∀ (l : List α) (i j : Nat), j < n → (l.flatMap f)[i * n + j]? = (l[i]?).bind (fun x => (f x)[j]?)
  | [], i, j, _ => by simp
  | x :: l, 0, j, hj => by
    rw [List.flatMap_cons, List.getElem?_append_left (by rw [hf]; omega)]; simp
  | x :: l, i + 1, j, hj => by
    have e : (i + 1) * n + j = n + (i * n + j) := by rw [Nat.add_mul, Nat.one_mul]; omega
    rw [List.flatMap_cons, List.getElem?_append_right (by rw [hf, e]; omega), hf, e, Nat.add_sub_cancel_left, flat_at f n hf l i j hj]
    simp
/-- v is a slice that reads as the list l, an element's cells being f. -/
def SlF {α : Type} (f : α → List Value) (w : World) (v : Value) (l : List α) : Prop := Sl w v l.length (l.flatMap f)
theorem SlF.le {α : Type} {f : α → List Value} {w : World} {v : Value} {l : List α} (h : SlF f w v l) : l.length ≤ maxLen := Sl.le h
theorem SlF.fr {α : Type} {f : α → List Value} {L : List Nat} {w w' : World} {v : Value} {l : List α} (h : SlF f w v l) (hf : Fr L w w') (hn : ∀ k, v.ownBlock = some k → k ∉ L) : SlF f w' v l := Sl.fr h hf hn
theorem SlF.fr0 {α : Type} {f : α → List Value} {w w' : World} {v : Value} {l : List α} (h : SlF f w v l) (hf : Fr [] w w') : SlF f w' v l := Sl.fr0 h hf
/-- what such a slice is: its length; where it has an element, its address and the element's cells -/
theorem SlF.open {α : Type} {f : α → List Value} {w : World} {v : Value} {l : List α} (h : SlF f w v l) : ∃ a cap, v = .slice a l.length cap ∧ l.length ≤ cap ∧ cap ≤ maxLen ∧
    (∀ (n : Nat), (∀ x, (f x).length = n) → 0 < n → ∀ i x, l[i]? = some x → ∃ b off, a = some ⟨b, off, none⟩ ∧ b < w.heap.size ∧ ∀ j u, (f x)[j]? = some u → w.cell? ⟨b, off + (i * n + j), none⟩ = some u) := by
  obtain ⟨a, cap, rfl, h1, h2, hc⟩ := h
  refine ⟨a, cap, rfl, h1, h2, fun n hn h0 i x hx => ?_⟩
  have hat : ∀ j u, (f x)[j]? = some u → (l.flatMap f)[i * n + j]? = some u := fun j u hu => by
    have hj : j < n := by rw [← hn x]; exact (List.getElem?_eq_some_iff.1 hu).1
    rw [flat_at f n hn l i j hj, hx]
    exact hu
  rcases hc with he | ⟨b, off, rfl, hb, hc⟩
  · exfalso
    have h0' : 0 < (f x).length := by rw [hn x]; exact h0
    have := hat 0 _ (List.getElem?_eq_getElem h0')
    rw [he] at this
    cases this
  · exact ⟨b, off, rfl, hb, fun j u hu => hc _ u (hat j u hu)⟩
abbrev SlS := SlF slotC
theorem slot_one {s : Slt} : ∀ u ∈ slotC s, u.oneCell' = true := by
  intro u hu
  simp at hu
  rcases hu with rfl | rfl | rfl <;> rfl
abbrev SlO := SlF opC
theorem getD_some {α : Type} {l : List α} {i : Nat} (d : α) (h : i < l.length) : l[i]? = some (l.getD i d) := by
  rw [List.getD_eq_getElem?_getD, List.getElem?_eq_getElem h]; rfl
/-- slot i of a slice -/
theorem SlS.at {w : World} {a : Option Addr} {cap n : Nat} {l : List Slt} (h : SlS w (.slice a n cap) l) {i : Nat} (hi : i < l.length) : ∃ b off, a = some ⟨b, off, none⟩ ∧ b < w.heap.size ∧
    w.cell? ⟨b, off + i * 3, none⟩ = some (.int .i64 (l.getD i zS).1) ∧ w.cell? ⟨b, off + i * 3 + 1, none⟩ = some (.int .i64 (l.getD i zS).2.1) ∧ w.cell? ⟨b, off + i * 3 + 2, none⟩ = some (.bool (l.getD i zS).2.2) := by
  obtain ⟨a', cap', hv, _, _, hc⟩ := h.open
  cases hv
  obtain ⟨b, off, rfl, hb, hc⟩ := hc 3 (fun _ => rfl) (by omega) i _ (getD_some zS hi)
  exact ⟨b, off, rfl, hb, hc 0 _ rfl, hc 1 _ rfl, hc 2 _ rfl⟩
def zO : Opr := (0, 0, zS)
theorem SlO.at {w : World} {a : Option Addr} {cap n : Nat} {l : List Opr} (h : SlO w (.slice a n cap) l) {i : Nat} (hi : i < l.length) : ∃ b off, a = some ⟨b, off, none⟩ ∧ b < w.heap.size ∧
    w.cell? ⟨b, off + i * 5, none⟩ = some (.int .i64 (l.getD i zO).1) ∧ w.cell? ⟨b, off + i * 5 + 1, none⟩ = some (.int .i64 (l.getD i zO).2.1) ∧ w.cell? ⟨b, off + i * 5 + 2, none⟩ = some (.int .i64 (l.getD i zO).2.2.1) ∧
    w.cell? ⟨b, off + i * 5 + 3, none⟩ = some (.int .i64 (l.getD i zO).2.2.2.1) ∧ w.cell? ⟨b, off + i * 5 + 4, none⟩ = some (.bool (l.getD i zO).2.2.2.2) := by
  obtain ⟨a', cap', hv, _, _, hc⟩ := h.open
  cases hv
  obtain ⟨b, off, rfl, hb, hc⟩ := hc 5 (fun _ => rfl) (by omega) i _ (getD_some zO hi)
  exact ⟨b, off, rfl, hb, hc 0 _ rfl, hc 1 _ rfl, hc 2 _ rfl, hc 3 _ rfl, hc 4 _ rfl⟩
/-- the cells of such a slice, as an append reads them -/
theorem SlF.news {α : Type} {f : α → List Value} {w : World} {a : Option Addr} {n cap : Nat} {l : List α} (h : SlF f w (.slice a n cap) l) (hne : l.flatMap f ≠ []) :
    ∃ b off, a = some ⟨b, off, none⟩ ∧ b < w.heap.size ∧ ∀ j u, (l.flatMap f)[j]? = some u → w.cell? ((⟨b, off, none⟩ : Addr).add j) = some u := by
  obtain ⟨a', cap', hv, _, _, hc⟩ := h
  cases hv
  rcases hc with he | ⟨b, off, rfl, hb, hc⟩
  · exact absurd he hne
  · refine ⟨b, off, rfl, hb, fun j u hu => ?_⟩
    have hadd : (⟨b, off, none⟩ : Addr).add j = ⟨b, off + j, none⟩ := by unfold Addr.add; split <;> simp_all
    rw [hadd]
    exact hc j u hu
theorem news_fr {L : List Nat} {w w' : World} {b off : Nat} {xs : List Value} (h : ∀ j u, xs[j]? = some u → w.cell? ((⟨b, off, none⟩ : Addr).add j) = some u) (hb : b < w.heap.size) (hf : Fr L w w') (hn : b ∉ L) :
    ∀ j u, xs[j]? = some u → w'.cell? ((⟨b, off, none⟩ : Addr).add j) = some u := by
  intro j u hu
  have hadd : (⟨b, off, none⟩ : Addr).add j = ⟨b, off + j, none⟩ := by unfold Addr.add; split <;> simp_all
  have := h j u hu
  rw [hadd] at this ⊢
  exact (World.cell?_of_block (hf.block b hb hn)).trans this
theorem flat_one {α : Type} {f : α → List Value} (hf : ∀ x, ∀ u ∈ f x, u.oneCell' = true) (l : List α) : ∀ u ∈ l.flatMap f, u.oneCell' = true := by
  intro u hu
  obtain ⟨x, _, hx⟩ := List.mem_flatMap.1 hu
  exact hf x u hx
theorem owns_succ {w : World} {base : Nat} {e : TypeId} {size n : Nat} {v : Value} {xs : List Value} (h : w.ownsRow base e size v n xs) (hn : 0 < n) : ∃ g cap, v = .slice (some ⟨g, 0, none⟩) n cap ∧ base ≤ g ∧ n ≤ cap := by
  rcases h.2 with ⟨_, h0⟩ | ⟨g, cap, cur, hv, hb, _, hc, _⟩
  · omega
  · exact ⟨g, cap, hv, hb, hc⟩
/-- a slice that owns its cells reads so -/
theorem SlF.of_owns {α : Type} {f : α → List Value} {w : World} {base : Nat} {e : TypeId} {size : Nat} {v : Value} {l : List α} (h : w.ownsRow base e size v l.length (l.flatMap f)) : SlF f w v l := Sl.of_owns h
/-- one element in a block of its own -/
theorem SlF.one {α : Type} {f : α → List Value} {w : World} {b : Nat} {x : α} {t : TypeId} (h : Blk w b (f x) t) : SlF f w (.slice (some ⟨b, 0, none⟩) 1 1) [x] := by
  refine ⟨_, 1, rfl, Nat.le_refl _, by decide, .inr ⟨b, 0, rfl, h.lt, fun j u hu => ?_⟩⟩
  rw [Nat.zero_add, h.cell j]
  simpa using hu
/-! ### a slot in a slice that is owned -/
theorem flat3_take (g : List Slt) : ∀ i, (g.flatMap slotC).take (i * 3) = (g.take i).flatMap slotC := by
  induction g with
  | nil => intro i; simp
  | cons s g ih =>
    intro i
    cases i with
    | zero => simp
    | succ i =>
      rw [List.flatMap_cons, List.take_succ_cons, List.flatMap_cons, ← ih i]
      have : (i + 1) * 3 = (slotC s).length + i * 3 := by simp; omega
      rw [this, List.take_length_add_append]
theorem flat3_drop (g : List Slt) : ∀ i, (g.flatMap slotC).drop (i * 3) = (g.drop i).flatMap slotC := by
  induction g with
  | nil => intro i; simp
  | cons s g ih =>
    intro i
    cases i with
    | zero => simp
    | succ i =>
      rw [List.flatMap_cons, List.drop_succ_cons, ← ih i]
      have : (i + 1) * 3 = (slotC s).length + i * 3 := by simp; omega
      rw [this, List.drop_length_add_append]
theorem flat3_length (g : List Slt) : (g.flatMap slotC).length = g.length * 3 := by
  induction g with
  | nil => rfl
  | cons s g ih => simp [ih]; omega
theorem flat3_set (g : List Slt) (i : Nat) (hi : i < g.length) (s : Slt) :
    (g.set i s).flatMap slotC = (((g.flatMap slotC).set (i * 3) (.int .i64 s.1)).set (i * 3 + 1) (.int .i64 s.2.1)).set (i * 3 + 2) (.bool s.2.2) := by
  have hl := flat3_length g
  apply List.ext_getElem?
  intro k
  obtain ⟨q, j, hj, rfl⟩ : ∃ q j, j < 3 ∧ k = q * 3 + j := ⟨k / 3, k % 3, Nat.mod_lt _ (by omega), by omega⟩
  rw [flat_at slotC 3 (fun _ => rfl) _ q j hj]
  simp only [List.getElem?_set, List.length_set, hl, flat_at slotC 3 (fun _ => rfl) _ q j hj]
  by_cases hq : i = q
  · subst hq
    match j, hj with
    | 0, _ => simp [hi]
    | 1, _ => simp [hi]; omega
    | 2, _ => simp [hi]; omega
  · rw [if_neg hq, if_neg (by omega), if_neg (by omega), if_neg (by omega)]
section
variable {w : World} {base g n cap : Nat} {e : TypeId} {l : List Slt}
theorem owns_at {size : Nat} {xs : List Value} (h : w.ownsRow base e size (.slice (some ⟨g, 0, none⟩) n cap) n xs) {j : Nat} {u : Value} (hu : xs[j]? = some u) : w.cell? ⟨g, j, none⟩ = some u ∧ w.frozen? ⟨g, j, none⟩ = false := by
  rcases h.2 with ⟨h1, _⟩ | ⟨g', cap', cur, hv, _, hg, _, _, _, ht⟩
  · cases h1
  · cases hv
    constructor
    · rw [cell_of_row w g j _ e _ hg]
      rw [← ht, List.getElem?_take] at hu
      split at hu
      · simpa using hu
      · cases hu
    · exact frozen_of_row w g j _ e hg
/-- a store into it -/
theorem owns_put {size : Nat} {xs : List Value} (h : w.ownsRow base e size (.slice (some ⟨g, 0, none⟩) n cap) n xs) (j : Nat) (u : Value) : (w.setCell ⟨g, j, none⟩ u).ownsRow base e size (.slice (some ⟨g, 0, none⟩) n cap) n (xs.set j u) := by
  refine ⟨by rw [List.length_set]; exact h.1, ?_⟩
  rcases h.2 with ⟨h1, _⟩ | ⟨g', cap', cur, hv, hb, hg, hn, hm, hs, ht⟩
  · cases h1
  · cases hv
    refine .inr ⟨g, cap, cur.setIfInBounds j u, rfl, hb, heap_setCell_same w g j cur e u hg, hn, hm, by simpa using hs, ?_⟩
    rw [Array.toList_setIfInBounds, List.take_set, ht]
theorem owns_put3 (h : w.ownsRow base e 3 (.slice (some ⟨g, 0, none⟩) n cap) n (l.flatMap slotC)) (hl : l.length = n) (i : Nat) (hi : i < n) (s : Slt) :
    (((w.setCell ⟨g, i * 3, none⟩ (.int .i64 s.1)).setCell ⟨g, i * 3 + 1, none⟩ (.int .i64 s.2.1)).setCell ⟨g, i * 3 + 2, none⟩ (.bool s.2.2)).ownsRow base e 3 (.slice (some ⟨g, 0, none⟩) n cap) n ((l.set i s).flatMap slotC) := by
  rw [flat3_set l i (by omega) s]
  exact owns_put (owns_put (owns_put h _ _) _ _) _ _
/-- its cells, before a store -/
theorem owns_at3 (h : w.ownsRow base e 3 (.slice (some ⟨g, 0, none⟩) n cap) n (l.flatMap slotC)) {i : Nat} (hi : i < l.length) :
    (w.cell? ⟨g, i * 3, none⟩ = some (.int .i64 (l.getD i zS).1) ∧ w.cell? ⟨g, i * 3 + 1, none⟩ = some (.int .i64 (l.getD i zS).2.1) ∧ w.cell? ⟨g, i * 3 + 2, none⟩ = some (.bool (l.getD i zS).2.2)) ∧ ∀ o, w.frozen? ⟨g, o, none⟩ = false := by
  have hat : ∀ j u, j < 3 → (slotC (l.getD i zS))[j]? = some u → (l.flatMap slotC)[i * 3 + j]? = some u := fun j u hj hu => by
    rw [flat_at slotC 3 (fun _ => rfl) l i j hj, getD_some zS hi]; exact hu
  refine ⟨⟨(owns_at h (hat 0 _ (by omega) rfl)).1, (owns_at h (hat 1 _ (by omega) rfl)).1, (owns_at h (hat 2 _ (by omega) rfl)).1⟩, fun o => ?_⟩
  rcases h.2 with ⟨h1, _⟩ | ⟨g', cap', cur, hv, _, hg, _⟩
  · cases h1
  · cases hv
    exact frozen_of_row w g o _ e hg
end
end Go.Proofs.YtiifmakhfpllnaaGreat

namespace Go.Proofs.YtiifmakhfpllnaaGreat
open Go.RowKit

abbrev intC (n : Int) : List Value := [.int .i64 n]
abbrev SlI := SlF intC
theorem SlI.at {w : World} {a : Option Addr} {cap n : Nat} {l : List Int} (h : SlI w (.slice a n cap) l) {i : Nat} (hi : i < l.length) : ∃ b off, a = some ⟨b, off, none⟩ ∧ b < w.heap.size ∧
    w.cell? ⟨b, off + i, none⟩ = some (.int .i64 (l.getD i 0)) := by
  obtain ⟨a', cap', hv, _, _, hc⟩ := h.open
  cases hv
  obtain ⟨b, off, rfl, hb, hc⟩ := hc 1 (fun _ => rfl) (by omega) i _ (getD_some 0 hi)
  have := hc 0 _ rfl
  rw [Nat.mul_one, Nat.add_zero] at this
  exact ⟨b, off, rfl, hb, this⟩
theorem int_one {n : Int} : ∀ u ∈ intC n, u.oneCell' = true := by
  intro u hu
  simp at hu
  subst hu
  rfl
end Go.Proofs.YtiifmakhfpllnaaGreat
