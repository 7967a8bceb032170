/-
  maps.Clone, table.Copy.
-/
import Derived.Test.YtilhbjjjmdnjmaaGreatM08
import Derived.Test.YtilhbjjjmdnjmaaGreatM10
import Derived.Shelf.SlMaps.Clone
namespace Go.Proofs.YtilhbjjjmdnjmaaGreat
open Go.RowKit Go.Maps
attribute [local go_sem] mapAt_alloc mapAt_setCell mapAt_drew mapAt_drewN

set_option maxRecDepth 100000 in
set_option maxHeartbeats 2000000 in
theorem tClone_calls (b : Nat) (es : Array MapEntry) (clock : Nat) (w : World) (hm : mapAt w b = some (es, clock)) :
    Calls Tryz.prog 94 #[.map (some b)] w fun e w' => e = .returned (.map (some w.heap.size)) ∧ w' = w.alloc (.map es clock) := by
  have hb := mapAt_some.1 hm
  have hq := fun w => run_eql_map_nil_sl (P := Tryz.prog) w 122 _ _ (some b) Tryz.underlying122
  go_enter Tryz.func94, Tryz.ntmps94
  go_wp2
  rw [run_callFunc_extern Tryz.func107 (by kernel_rfl) (by kernel_rfl) (by kernel_rfl) (e := Extern.MapsClone.clone) (by kernel_rfl), run_maps_clone_sl w 122 hb]
  simp only [Result.andThen]
  rw [Oper.upon_value]
  go_wp2
  rw [run_typeAssert_map_sl _ 122 20 _ _ _ Tryz.underlying122]
  simp only [Result.andThen]
  rw [Oper.upon_value]
  go_wp2
  go_ret
  exact ⟨rfl, rfl⟩
set_option maxRecDepth 100000 in
set_option maxHeartbeats 2000000 in
theorem tCopy_calls (tb mb : Nat) (l : List Slt) (w : World) (h : TabW w tb mb l) :
    Calls Tryz.prog 56 #[.pointer (some ⟨tb, 0, none⟩)] w fun e w' => ∃ tb' mb', e = .returned (.pointer (some ⟨tb', 0, none⟩)) ∧ w.heap.size ≤ tb' ∧ w.heap.size ≤ mb' ∧ TabW w' tb' mb' l ∧ Fr [] w w' := by
  have hd := (Fr.refl [] w).drew
  have hTd := h.fr0 hd
  obtain ⟨es, clock, hm, hi⟩ := hTd.map
  have hlt := h.lt
  have key := tClone_calls mb es clock w.drew hm
  go_enter Tryz.func56, Tryz.ntmps56
  go_wp2_with fail
  refine wp_region_G (Fr [] w.drew) [(true, 0), (true, 1), (true, 2), (true, 3), (true, 4), (true, 5), (true, 6), (true, 7), (false, 8), (true, 9), (false, 10), (true, 11)] (by as_aux_lemma => kernel_rfl) (by as_aux_lemma => kernel_rfl) (Fr.refl _ _) ?_
  simp only [inOrder, List.map_cons, List.map_nil, List.getD_cons_zero, List.getD_cons_succ]
  iterate 3
    refine wpG_pure fun K hK => ?_
    go_simp
    refine hK _ ?_
    clear hK K
  refine wpG_val (.int .i64 l.length) (by first | rfl | go_simp) (fun X hX => by have cc := (hTd.fr0 hX).blk.cell; go_simp) ?_
  simp only [Act.put, List.setIfInBounds_toArray, List.set_cons_zero, List.set_cons_succ]
  iterate 3
    refine wpG_pure fun K hK => ?_
    go_simp
    refine hK _ ?_
    clear hK K
  refine wpG_val (.map (some mb)) (by first | rfl | go_simp) (fun X hX => by have cc := (hTd.fr0 hX).blk.cell; go_simp) ?_
  simp only [Act.put, List.setIfInBounds_toArray, List.set_cons_zero, List.set_cons_succ]
  refine wpG_one fun K hK => ?_
  go_simp
  refine (key).mono ?_
  rintro e w1 ⟨rfl, rfl⟩
  have hf1 := (Fr.refl [] w.drew).alloc (.map es clock)
  refine hK _ _ (hf1) ?_
  clear hK K
  iterate 1
    refine wpG_pure fun K hK => ?_
    go_simp
    refine hK _ ?_
    clear hK K
  have hf2 := hf1.alloc (.cells #[.int .i64 l.length, .map (some w.heap.size)] 124)
  refine wpG_one fun K hK => ?_
  go_simp
  refine hK _ _ hf2 ?_
  clear hK K
  iterate 1
    refine wpG_pure fun K hK => ?_
    go_simp
    refine hK _ ?_
    clear hK K
  refine wpG_end ?_
  go_wp2
  go_ret
  refine ⟨w.heap.size + 1, w.heap.size, rfl, by omega, Nat.le_refl _, ⟨?_, h.len, h.right, es, clock, ?_, hi⟩, hd.trans0 hf2⟩
  · exact Blk.new' (by simp) [_, _] _
  · rw [mapAt_drew, mapAt_some, Below.heap_alloc _ _ _ (by simp)]; exact heap_alloc_new w _
end Go.Proofs.YtilhbjjjmdnjmaaGreat
