/-
  The operations on slots and on groups of slots, as equations on their runs: for the walks of package table.
-/
import Derived.Test.YtknbjdbdpdbeiaaTabPlain
import Derived.Test.YtknbjdbdpdbeiaaMaps
import Derived.Test.YtknbjdbdpdbeiaaProg
import Derived.ChangeKeysEq
namespace Go.Proofs.Ytknbjdbdpdbeiaa
open Go.RowKit Go.Maps

theorem follows : Try.prog.follows .mixedOrders = true := by kernel_rfl
/-- the cells of a group -/
def gC (g : List Slt) : Array Value := (g.flatMap slotC).toArray
theorem gC_size (g : List Slt) : (gC g).size = g.length * 3 := by
  simp only [gC, List.size_toArray]
  induction g with
  | nil => rfl
  | cons s g ih => simp [ih]; omega
theorem flat_slot (g : List Slt) : ∀ (i j : Nat), j < 3 → (g.flatMap slotC)[i * 3 + j]? = (g[i]?).bind (fun s => (slotC s)[j]?) := by
  induction g with
  | nil => intro i j _; simp
  | cons s g ih =>
    intro i j hj
    rw [List.flatMap_cons]
    cases i with
    | zero =>
      rw [List.getElem?_append_left (by simp; omega)]
      simp
    | succ i =>
      rw [List.getElem?_append_right (by simp; omega)]
      have : (i + 1) * 3 + j - (slotC s).length = i * 3 + j := by simp; omega
      rw [this, ih i j hj]
      simp
theorem gC_at (g : List Slt) (i j : Nat) (hj : j < 3) : (gC g)[i * 3 + j]? = (g[i]?).bind (fun s => (slotC s)[j]?) := by
  simpa [gC] using flat_slot g i j hj
theorem gC_extract (g : List Slt) (i : Nat) (hi : i < g.length) : (gC g).extract (i * 3) (i * 3 + 3) = #[.int .i64 (g.getD i zS).1, .int .i64 (g.getD i zS).2.1, .bool (g.getD i zS).2.2] := by
  have hs := gC_size g
  have hg : g[i]? = some (g.getD i zS) := by rw [List.getD_eq_getElem?_getD, List.getElem?_eq_getElem hi]; rfl
  apply Array.ext
  · simp [hs]; omega
  · intro j h1 h2
    have hj : j < 3 := by simpa using h2
    have := gC_at g i j hj
    rw [hg] at this
    rw [Array.getElem_extract, ← Option.some_inj, ← Array.getElem?_eq_getElem, this]
    match j, hj with
    | 0, _ => rfl
    | 1, _ => rfl
    | 2, _ => rfl
theorem gC_inj {g g' : List Slt} (h : g.length = g'.length) (e : ∀ i, i < g.length → (gC g).extract (i * 3) (i * 3 + 3) = (gC g').extract (i * 3) (i * 3 + 3)) : g = g' := by
  apply List.ext_getElem h
  intro i h1 h2
  have := e i h1
  rw [gC_extract g i h1, gC_extract g' i h2] at this
  rw [List.getD_eq_getElem?_getD, List.getElem?_eq_getElem h1, List.getD_eq_getElem?_getD, List.getElem?_eq_getElem h2] at this
  simp at this
  obtain ⟨a, b, c⟩ := this
  generalize g[i] = x at *
  generalize g'[i] = y at *
  obtain ⟨x1, x2, x3⟩ := x
  obtain ⟨y1, y2, y3⟩ := y
  simp_all

/-! ### equality of slots -/
theorem fieldsSlot (f : Array Field) (h : f = #[{ name := "Kind", type := 3, offset := 0, embedded := false, tag := "", pkgPath := "", byteOffset := 0 }, { name := "Host", type := 3, offset := 1, embedded := false, tag := "", pkgPath := "", byteOffset := 8 },{ name := "Own", type := 4, offset := 2, embedded := false, tag := "", pkgPath := "", byteOffset := 16 }])
    (d : Nat) (a b : Slt) (w : World) : (Op.eqFields (d + 1) (slotC a).toArray (slotC b).toArray f.toList).run Try.prog w = .ok (sEq a b) w := by
  obtain ⟨a1, a2, a3⟩ := a
  obtain ⟨b1, b2, b3⟩ := b
  rw [h]
  unfold sEq
  by_cases h1 : a1 = b1 <;> by_cases h2 : a2 = b2 <;> cases a3 <;> cases b3 <;> simp [Op.eqFields, go_sem, h1, h2, Try.underlying3, Try.underlying4]
theorem equalSlot (d : Nat) (a b : Int) (c : Bool) (a' b' : Int) (c' : Bool) (w : World) :
    (Op.equalIn (d + 2) 43 (.agg #[.int .i64 a, .int .i64 b, .bool c]) (.agg #[.int .i64 a', .int .i64 b', .bool c'])).run Try.prog w = .ok (sEq (a, b, c) (a', b', c')) w := by
  rw [run_equalIn_struct (P := Try.prog) w (d + 1) 43 _ _ (by kernel_rfl) (by kernel_rfl)]
  exact fieldsSlot _ (by kernel_rfl) d (a, b, c) (a', b', c') w
theorem equalSlotR (d : Nat) (a b : Int) (c : Bool) (a' b' : Int) (c' : Bool) (w : World) :
    (Op.equalIn (d + 2) 32 (.agg #[.int .i64 a, .int .i64 b, .bool c]) (.agg #[.int .i64 a', .int .i64 b', .bool c'])).run Try.prog w = .ok (sEq (a, b, c) (a', b', c')) w := by
  rw [run_equalIn_struct (P := Try.prog) w (d + 1) 32 _ _ (by kernel_rfl) (by kernel_rfl)]
  exact fieldsSlot _ (by kernel_rfl) d (a, b, c) (a', b', c') w
theorem equalSlot0 (a b : Int) (c : Bool) (a' b' : Int) (c' : Bool) (w : World) :
    (Op.equalIn 10000 43 (.agg #[.int .i64 a, .int .i64 b, .bool c]) (.agg #[.int .i64 a', .int .i64 b', .bool c'])).run Try.prog w = .ok (sEq (a, b, c) (a', b', c')) w := equalSlot 9998 a b c a' b' c' w
theorem equalSlotR0 (a b : Int) (c : Bool) (a' b' : Int) (c' : Bool) (w : World) :
    (Op.equalIn 10000 32 (.agg #[.int .i64 a, .int .i64 b, .bool c]) (.agg #[.int .i64 a', .int .i64 b', .bool c'])).run Try.prog w = .ok (sEq (a, b, c) (a', b', c')) w := equalSlotR 9998 a b c a' b' c' w

theorem fieldKind (p q r : Value) (w : World) : (Instr.field 43 (.agg #[p, q, r]) 0).run Try.prog w = .ok p w := by kernel_rfl
theorem fieldKindR (p q r : Value) (w : World) : (Instr.field 32 (.agg #[p, q, r]) 0).run Try.prog w = .ok p w := by kernel_rfl
/-! ### groups -/
theorem part_slot (g : List Slt) (i : Nat) (hi : i < g.length) (w : World) : (part 43 (gC g) (i * 3)).run Try.prog w = .ok (slotV (g.getD i zS)) w := by
  have h1 : (isAgg 43).run Try.prog w = .ok true w := by kernel_rfl
  have h2 : (sizeOf 43).run Try.prog w = .ok 3 w := by kernel_rfl
  simp only [part, Sem.run_bind, h1, h2, Result.andThen_ok, if_true, Sem.run_pure, gC_extract g i hi]
theorem zeroGroup (w : World) : (zeroValue 78).run Try.prog w = .ok (.agg (gC (zG))) w := by kernel_rfl
theorem buildGroup (w : World) : (Instr.build 78 #[]).run Try.prog w = .ok (.agg (gC (zG))) w := by kernel_rfl
theorem indexGroup (g : List Slt) (hg : g.length = 16) (i : Int) (h0 : 0 ≤ i) (h1 : i < 16) (w : World) :
    (Instr.index 78 (.agg (gC g)) (.int .i64 i)).run Try.prog w = .ok (slotV (g.getD i.toNat zS)) w := by
  have h2 : (sizeOf 43).run Try.prog w = .ok 3 w := by kernel_rfl
  have hb : 0 ≤ i ∧ i < ((16 : Nat) : Int) := ⟨h0, h1⟩
  simp only [Instr.index, asIntOf, Sem.run_bind, Sem.run_pure, Result.andThen_ok, run_underlying Try.underlying78, if_pos hb, h2, part_slot g i.toNat (by omega)]
theorem slt_eta (s : Slt) : (s.1, s.2.1, s.2.2) = s := rfl
theorem infoSlot : (Try.prog.info? 43).map (fun i => (i.zero, i.size, i.bytes)) = some (some (.agg #[.int .i64 0, .int .i64 0, .bool false]), 3, 24) := by kernel_rfl
theorem eqItems_groups (d : Nat) (g g' : List Slt) (h : g.length = g'.length) (w : World) : ∀ (is : List Nat), (∀ i ∈ is, i < g.length) →
    (Op.eqItems (d + 2) 43 3 (gC g) (gC g') is).run Try.prog w = .ok (is.all fun i => sEq (g.getD i zS) (g'.getD i zS)) w
  | [], _ => by simp [Op.eqItems]
  | i :: is, hi => by
    have hi0 := hi i (by simp)
    simp only [Op.eqItems, Sem.run_bind, part_slot g i hi0, part_slot g' i (by omega), Result.andThen_ok, equalSlot d, slt_eta, List.all_cons]
    cases hs : sEq (g.getD i zS) (g'.getD i zS) with
    | false => simp only [Bool.not_false, if_true, Sem.run_pure, Bool.false_and]
    | true =>
      simp only [Bool.not_true, Bool.false_eq_true, if_false, Bool.true_and]
      exact eqItems_groups d g g' h w is (fun j hj => hi j (by simp [hj]))
theorem equalGroup' (d : Nat) (g g' : List Slt) (hg : g.length = 16) (hg' : g'.length = 16) (w : World) :
    (Op.equalIn (d + 3) 78 (.agg (gC g)) (.agg (gC g'))).run Try.prog w = .ok (decide (g = g')) w := by
  obtain ⟨i, hi, _, _, _⟩ := info_parts infoSlot
  have hc : Try.prog.cellsOf 43 = 3 := by kernel_rfl
  rw [run_equalIn_array (P := Try.prog) w (d + 2) (gC g) (gC g') Try.underlying78 hi, hc, eqItems_groups d g g' (by omega) w (List.range 16) (fun j hj => by rw [List.mem_range] at hj; omega)]
  have he : ((List.range 16).all fun i => sEq (g.getD i zS) (g'.getD i zS)) = decide (g = g') := ?_
  · rw [he]
  rw [Bool.eq_iff_iff, List.all_eq_true, decide_eq_true_iff]
  constructor
  · intro h
    apply List.ext_getElem (by omega)
    intro j h1 h2
    have := (sEq_iff _ _).1 (h j (by rw [List.mem_range]; omega))
    rw [List.getD_eq_getElem?_getD, List.getElem?_eq_getElem h1, List.getD_eq_getElem?_getD, List.getElem?_eq_getElem h2] at this
    exact this
  · rintro rfl j _
    exact sEq_self _
theorem equalGroup (g g' : List Slt) (hg : g.length = 16) (hg' : g'.length = 16) (w : World) :
    (Op.equalIn 10000 78 (.agg (gC g)) (.agg (gC g'))).run Try.prog w = .ok (decide (g = g')) w := equalGroup' 9997 g g' hg hg' w
theorem guardGroup (op : BinOp) (x y : Operand) (a b : Array Value) (w : World) : (eqGuard op 78 x y (.agg a) (.agg b)).run Try.prog w = .ok () w := run_eqGuard_agg w op _ x y a b (by kernel_rfl)
theorem setRow_new (w : World) (cs cs' : Array Value) (t : TypeId) : (w.alloc (.cells cs t)).setRow w.heap.size cs' = w.alloc (.cells cs' t) := by
  unfold World.setRow World.alloc
  congr 1
  apply Array.ext_getElem?
  intro i
  rw [Array.getElem?_modify, Array.getElem?_push, Array.getElem?_push]
  by_cases h : w.heap.size = i
  · subst h; simp
  · rw [if_neg h]
    by_cases h2 : i = w.heap.size
    · exact absurd h2.symm h
    · rw [if_neg h2, if_neg h2]
/-- a group stored whole into the block that has just been laid for it -/
theorem storeGroup (g : List Slt) (hg : g.length = 16) (n : Nat) (cs : Array Value) (hcs : cs.size = 48) (t : TypeId) (w : World) (hn : n = w.heap.size) :
    (Instr.storeAt 78 (.pointer (some ⟨n, 0, none⟩)) (.agg (gC g))).run Try.prog (w.alloc (.cells cs t)) = .ok () (w.alloc (.cells (gC g) t)) := by
  subst hn
  have h2 : ∀ w, (sizeOf 78).run Try.prog w = .ok 48 w := fun w => by kernel_rfl
  have hs : (gC g).size = 48 := by rw [gC_size, hg]
  have hw : (w.alloc (.cells cs t)).heap[w.heap.size]? = some (.cells cs t (0, 0)) := heap_alloc_new w _
  have hst := run_storeCells_at Try.prog w.heap.size 0 t (gC g).toList 0 cs (w.alloc (.cells cs t)) hw (by simp [hs, hcs]) (by
    intro v hv
    simp only [gC] at hv
    rw [List.mem_flatMap] at hv
    obtain ⟨s, _, hs⟩ := hv
    simp at hs
    rcases hs with rfl | rfl | rfl <;> rfl)
  simp only [Instr.storeAt, Instr.sureAddr, storeVar, Sem.run_bind, Sem.run_pure, Result.andThen_ok, h2]
  rw [if_neg (by simp [Value.cells, hs])]
  simp only [Value.cells]
  refine hst.trans ?_
  congr 1
  rw [setRow_new]
  congr 2
  rw [List.drop_eq_nil_of_le (by simp [hs, hcs])]
  simp
theorem loadGroup (g : List Slt) (hg : g.length = 16) (n : Nat) (t : TypeId) (w : World) (hn : n = w.heap.size) :
    (Instr.loadAt 78 (.pointer (some ⟨n, 0, none⟩))).run Try.prog (w.alloc (.cells (gC g) t)) = .ok (.agg (gC g)) (w.alloc (.cells (gC g) t)) := by
  subst hn
  simp only [Instr.loadAt, Instr.sureAddr, Sem.run_bind, Sem.run_pure, Result.andThen_ok]
  refine run_loadVar_row _ w.heap.size t 78 (gC g) (0, 0) _ (heap_alloc_new w _) Try.underlying78 rfl ?_
  rw [gC_size, hg]
  kernel_rfl
theorem allocGroup (z : Value) (w : World) : (Instr.alloc 78 true z).run Try.prog w = .ok (.pointer (some ⟨w.heap.size, 0, none⟩)) (w.alloc (.cells (gC (zG)) 78)) := by
  cases z <;> simp only [Instr.alloc, Sem.run_bind, zeroGroup, Result.andThen_ok, newVar, newRow, Value.cells, run_newObj_alloc, Sem.run_pure]
section
variable {ops : Array Oper} {rest : List Oper} {o : Oper} {a : Act} {Q : Exit → Act → World → Prop}
theorem wpList_allocGroup {w : World} (hg : o.guard = none) (ho : o.op = .alloc 78)
    (h : wpList Try.prog ops Q rest (a.put o.dst (.pointer (some ⟨w.heap.size, 0, none⟩))) (w.alloc (.cells (gC (zG)) 78))) : wpList Try.prog ops Q (o :: rest) a w :=
  wpList_plain hg fun K hK => by
    unfold Oper.wp execOp
    simp only [ho, Sem.run_bind, allocGroup, Result.andThen_ok, Sem.run_pure]
    exact hK _ _ h
theorem wpList_buildGroup {w : World} (hg : o.guard = none) (ho : o.op = .build 78 #[])
    (h : wpList Try.prog ops Q rest (a.put o.dst (.agg (gC (zG)))) w) : wpList Try.prog ops Q (o :: rest) a w :=
  wpList_plain hg fun K hK => by
    unfold Oper.wp execOp
    simp only [ho, List.map_toArray, List.map_nil, Sem.run_bind, buildGroup, Result.andThen_ok, Sem.run_pure]
    exact hK _ _ h
theorem wpList_storeGroup {w : World} {cs : Array Value} {t : TypeId} (hg : o.guard = none) (x y : Operand) (ho : o.op = .store 78 x y) (n : Nat) (hx : a.eval x = .pointer (some ⟨n, 0, none⟩)) (g : List Slt) (hy : a.eval y = .agg (gC g))
    (hn : n = w.heap.size) (hl : g.length = 16) (hcs : cs.size = 48) (h : wpList Try.prog ops Q rest (a.put o.dst undef) (w.alloc (.cells (gC g) t))) : wpList Try.prog ops Q (o :: rest) a (w.alloc (.cells cs t)) :=
  wpList_plain hg fun K hK => by
    unfold Oper.wp execOp
    simp only [ho, hx, hy, Sem.run_bind, storeGroup g hl n cs hcs t w hn, Result.andThen_ok, Sem.run_pure]
    exact hK _ _ h
theorem wpList_loadGroup {w : World} {g : List Slt} {t : TypeId} (hg : o.guard = none) (x : Operand) (ho : o.op = .load 78 x) (n : Nat) (hx : a.eval x = .pointer (some ⟨n, 0, none⟩))
    (hn : n = w.heap.size) (hl : g.length = 16) (h : wpList Try.prog ops Q rest (a.put o.dst (.agg (gC g))) (w.alloc (.cells (gC g) t))) : wpList Try.prog ops Q (o :: rest) a (w.alloc (.cells (gC g) t)) :=
  wpList_plain hg fun K hK => by
    unfold Oper.wp execOp
    simp only [ho, hx, Sem.run_bind, loadGroup g hl n t w hn, Result.andThen_ok, Sem.run_pure]
    exact hK _ _ h
end
theorem wpStill_loadGroup {ops : Array Oper} {w : World} {Q : Act → Prop} {a : Act} {o : Oper} {rest : List Oper} {g : List Slt} {t : TypeId} (hg : o.guard = none) (x : Operand) (ho : o.op = .load 78 x) (n : Nat)
    (hx : a.eval x = .pointer (some ⟨n, 0, none⟩)) (hn : n = w.heap.size) (hl : g.length = 16) (h : wpStill Try.prog ops (w.alloc (.cells (gC g) t)).drew Q rest (a.put o.dst (.agg (gC g)))) : wpStill Try.prog ops (w.alloc (.cells (gC g) t)).drew Q (o :: rest) a :=
  wpStill_value hg _ (by
    unfold execOp
    have := loadGroup g hl n t w.drew hn
    simp only [ho, hx, Sem.run_bind]
    rw [show (w.alloc (.cells (gC g) t)).drew = w.drew.alloc (.cells (gC g) t) from rfl, this]
    rfl) h
theorem flat_take (g : List Slt) : ∀ i, (g.flatMap slotC).take (i * 3) = (g.take i).flatMap slotC := by
  induction g with
  | nil => intro i; simp
  | cons s g ih =>
    intro i
    cases i with
    | zero => simp
    | succ i =>
      rw [List.flatMap_cons, List.take_succ_cons, List.flatMap_cons, ← ih i]
      have : (i + 1) * 3 = (slotC s).length + i * 3 := by simp; omega
      rw [this, List.take_length_add_append]
theorem flat_drop (g : List Slt) : ∀ i, (g.flatMap slotC).drop (i * 3) = (g.drop i).flatMap slotC := by
  induction g with
  | nil => intro i; simp
  | cons s g ih =>
    intro i
    cases i with
    | zero => simp
    | succ i =>
      rw [List.flatMap_cons, List.drop_succ_cons, ← ih i]
      have : (i + 1) * 3 = (slotC s).length + i * 3 := by simp; omega
      rw [this, List.drop_length_add_append]
theorem flat_set (g : List Slt) (i : Nat) (hi : i < g.length) (s : Slt) : (g.set i s).flatMap slotC = (g.flatMap slotC).take (i * 3) ++ slotC s ++ (g.flatMap slotC).drop (i * 3 + 3) := by
  have e : i * 3 + 3 = (i + 1) * 3 := by omega
  rw [e, flat_take, flat_drop, List.set_eq_take_append_cons_drop, if_pos hi]
  simp
theorem storeSlot (g : List Slt) (i : Nat) (hi : i < g.length) (n : Nat) (k h : Int) (o : Bool) (t : TypeId) (w : World) (hn : n = w.heap.size) :
    (Instr.storeAt 43 (.pointer (some ⟨n, i * 3, none⟩)) (.agg #[.int .i64 k, .int .i64 h, .bool o])).run Try.prog (w.alloc (.cells (gC g) t)) = .ok () (w.alloc (.cells (gC (g.set i (k, h, o))) t)) := by
  subst hn
  have h2 : ∀ w, (sizeOf 43).run Try.prog w = .ok 3 w := fun w => by kernel_rfl
  have hw : (w.alloc (.cells (gC g) t)).heap[w.heap.size]? = some (.cells (gC g) t (0, 0)) := heap_alloc_new w _
  have hst := run_storeCells_at Try.prog w.heap.size (i * 3) t (slotC (k, h, o)) 0 (gC g) (w.alloc (.cells (gC g) t)) hw (by simp [gC_size]; omega) (by
    intro v hv
    simp at hv
    rcases hv with rfl | rfl | rfl <;> rfl)
  simp only [Instr.storeAt, Instr.sureAddr, storeVar, Sem.run_bind, Sem.run_pure, Result.andThen_ok, h2]
  rw [if_neg (by simp [Value.cells])]
  simp only [Value.cells]
  refine hst.trans ?_
  rw [setRow_new]
  congr 3
  rw [show gC (g.set i (k, h, o)) = ((g.set i (k, h, o)).flatMap slotC).toArray from rfl, flat_set g i hi]
  simp [gC]
theorem wpList_storeSlot {ops : Array Oper} {rest : List Oper} {o : Oper} {a : Act} {Q : Exit → Act → World → Prop} {w : World} {g : List Slt} {t : TypeId} (hg : o.guard = none) (x y : Operand) (ho : o.op = .store 43 x y)
    (n m : Nat) (hx : a.eval x = .pointer (some ⟨n, m, none⟩)) (i : Nat) (hm : m = i * 3) (k h : Int) (b : Bool) (hy : a.eval y = .agg #[.int .i64 k, .int .i64 h, .bool b])
    (hn : n = w.heap.size) (hi : i < g.length) (hK : wpList Try.prog ops Q rest (a.put o.dst undef) (w.alloc (.cells (gC (g.set i (k, h, b))) t))) : wpList Try.prog ops Q (o :: rest) a (w.alloc (.cells (gC g) t)) :=
  wpList_plain hg fun K hK' => by
    subst hm
    unfold Oper.wp execOp
    simp only [ho, hx, hy, Sem.run_bind, storeSlot g i hi n k h b t w hn, Result.andThen_ok, Sem.run_pure]
    exact hK' _ _ hK
attribute [irreducible] gC
end Go.Proofs.Ytknbjdbdpdbeiaa
