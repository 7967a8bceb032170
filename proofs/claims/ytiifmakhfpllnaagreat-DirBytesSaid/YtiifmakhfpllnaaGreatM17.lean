/-
  maps.Clone, bits.Copy; bits.Same of bits of one grain, and with none.
-/
import Derived.Test.YtiifmakhfpllnaaGreatM08
import Derived.Shelf.SlMaps.Clone
import Derived.Deep.RegionHeld3
namespace Go.Proofs.YtiifmakhfpllnaaGreat
open Go.RowKit Go.Maps
attribute [local go_sem] mapAt_alloc mapAt_setCell mapAt_drew mapAt_drewN

set_option maxRecDepth 100000 in
set_option maxHeartbeats 2000000 in
theorem Clone_calls (b : Nat) (es : Array MapEntry) (clock : Nat) (w : World) (hm : mapAt w b = some (es, clock)) :
    Calls Tryz.prog 89 #[.map (some b)] w fun e w' => e = .returned (.map (some w.heap.size)) ∧ w' = w.alloc (.map es clock) := by
  have hb := mapAt_some.1 hm
  have hq := fun w => run_eql_map_nil_sl (P := Tryz.prog) w 111 _ _ (some b) Tryz.underlying111
  go_enter Tryz.func89, Tryz.ntmps89
  go_wp2
  rw [run_callFunc_extern Tryz.func99 (by kernel_rfl) (by kernel_rfl) (by kernel_rfl) (e := Extern.MapsClone.clone) (by kernel_rfl), run_maps_clone_sl w 111 hb]
  simp only [Result.andThen]
  rw [Oper.upon_value]
  go_wp2
  rw [run_typeAssert_map_sl _ 111 20 _ _ _ Tryz.underlying111]
  simp only [Result.andThen]
  rw [Oper.upon_value]
  go_wp2
  go_ret
  exact ⟨rfl, rfl⟩
set_option maxRecDepth 100000 in
set_option maxHeartbeats 2000000 in
theorem Copy_calls (tb mb S g : Nat) (l : List Bool) (w : World) (h : BitW w tb mb S g l) :
    Calls Tryz.prog 60 #[.pointer (some ⟨tb, 0, none⟩)] w fun e w' => ∃ tb' mb', e = .returned (.pointer (some ⟨tb', 0, none⟩)) ∧ w.heap.size ≤ tb' ∧ w.heap.size ≤ mb' ∧ BitW w' tb' mb' S g l ∧ Fr [] w w' := by
  have c := h.blk.cell
  obtain ⟨es, clock, hm, hi⟩ := h.map
  have hlt := h.lt
  have hS := h.size
  have hg := h.grain
  have hl := h.len
  have key := Clone_calls mb es clock w.drew hm
  have hca : ∀ o, (w.drew.alloc (.map es clock)).cell? ⟨tb, o, none⟩ = [Value.int .i64 S, .int .i64 g, .map (some mb)][o]? := fun o => by
    rw [World.cell?_of_block (Below.heap_alloc _ _ _ hlt.1)]; exact c o
  have hcb : ∀ o, ((w.alloc (.map es clock)).alloc (.cells #[.int .i64 S, .int .i64 g, .map (some w.heap.size)] 113)).drew.cell? ⟨tb, o, none⟩ = [Value.int .i64 S, .int .i64 g, .map (some mb)][o]? := fun o => by
    have e1 : ((w.alloc (.map es clock)).alloc (.cells #[.int .i64 S, .int .i64 g, .map (some w.heap.size)] 113)).drew.cell? ⟨tb, o, none⟩ = (w.alloc (.map es clock)).cell? ⟨tb, o, none⟩ := World.cell?_of_block (Below.heap_alloc _ _ _ (by simp; omega))
    rw [e1, World.cell?_of_block (Below.heap_alloc _ _ _ hlt.1)]; exact c o
  go_enter Tryz.func60, Tryz.ntmps60
  go_wp2_with fail
  go_region_held3 (fun W => W.cell? ⟨tb, 0, none⟩ = some (.int .i64 S) ∧ W.cell? ⟨tb, 1, none⟩ = some (.int .i64 g) ∧ W.cell? ⟨tb, 2, none⟩ = some (.map (some mb))) (first | exact ⟨c 0, c 1, c 2⟩ | exact ⟨hca 0, hca 1, hca 2⟩ | exact ⟨hcb 0, hcb 1, hcb 2⟩) (first | (go_at_call 89; refine key.mono ?_; rintro e w1 ⟨rfl, rfl⟩))
  all_goals go_wp2
  all_goals go_ret
  all_goals refine ⟨w.heap.size + 1, w.heap.size, rfl, by omega, Nat.le_refl _, ⟨?_, hS, hg, hl, es, clock, ?_, hi⟩, (((Fr.refl _ _).alloc _).alloc _).drew⟩
  all_goals first
    | exact (Blk.new' (by simp) [_, _, _] _).drew
    | (rw [mapAt_drew, mapAt_some, Below.heap_alloc _ _ _ (by simp)]; exact heap_alloc_new w _)
end Go.Proofs.YtiifmakhfpllnaaGreat
