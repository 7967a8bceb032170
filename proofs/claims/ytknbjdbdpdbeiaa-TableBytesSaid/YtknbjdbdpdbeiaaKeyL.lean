/-
  maps.Keys, slices.Sorted at this program: the library's contracts laid; the keys of a map, sorted, as a row.
-/
import Derived.Test.YtknbjdbdpdbeiaaKeys
import Derived.Test.YtknbjdbdpdbeiaaInts
import Derived.Test.YtknbjdbdpdbeiaaSortP
namespace Go.Proofs.Ytknbjdbdpdbeiaa
open Go.RowKit Go.Maps Go.Sort

set_option maxRecDepth 100000
def layKeys_ren : Go.Shelf.Ren := ⟨fun | 7 => 40 | 10 => 60 | n => n, fun | 23 => 70 | 26 => 3 | 3 => 78 | 28 => 85 | 0 => 0 | 27 => 84 | 33 => 69 | 4 => 4 | n => n, fun | n => n⟩
theorem layKeys : Go.Proofs.SlLaysZI.n7 Try.prog layKeys_ren := {
  mixed := by kernel_rfl,
  f7 := ⟨Try.f40.name, by decide, Try.func40.trans (congrArg some (by kernel_rfl))⟩,
  f10 := ⟨Try.f60.name, by decide, Try.func60.trans (congrArg some (by kernel_rfl))⟩,
  t0 := Try.underlying0,
  a0 := Try.isAgg0,
  z0 := Try.sizeOf0,
  v0 := Try.zeroValue0,
  t4 := Try.underlying4,
  a4 := Try.isAgg4,
  z4 := Try.sizeOf4,
  v4 := Try.zeroValue4,
  t23 := Try.underlying70,
  a23 := Try.isAgg70,
  z23 := Try.sizeOf70,
  v23 := Try.zeroValue70,
  t26 := Try.underlying3,
  a26 := Try.isAgg3,
  z26 := Try.sizeOf3,
  v26 := Try.zeroValue3,
  t27 := Try.underlying84,
  a27 := Try.isAgg84,
  z27 := Try.sizeOf84,
  v27 := Try.zeroValue84,
  t28 := Try.underlying85,
  a28 := Try.isAgg85,
  z28 := Try.sizeOf85,
  v28 := Try.zeroValue85,
  t33 := Try.underlying69,
  a33 := Try.isAgg69,
  z33 := Try.sizeOf69,
  v33 := Try.zeroValue69 }
def laySorted_ren : Go.Shelf.Ren := ⟨fun | 6 => 39 | 8 => 58 | 9 => 59 | 11 => 70 | 13 => 72 | 12 => 71 | 23 => 83 | 24 => 84 | 14 => 74 | 15 => 75 | 16 => 76 | 17 => 77 | 18 => 78 | 19 => 79 | 20 => 80 | 21 => 81 | 22 => 82 | 25 => 85 | 26 => 86 | 27 => 87 | 28 => 88 | 29 => 89 | 30 => 90 | 31 => 91 | n => n, fun | 26 => 3 | 28 => 85 | 24 => 82 | 0 => 0 | 3 => 3 | 37 => 115 | 48 => 132 | 50 => 134 | 4 => 4 | 40 => 125 | 39 => 124 | 45 => 129 | 5 => 5 | 9 => 9 | 51 => 135 | 55 => 139 | 57 => 141 | 58 => 142 | 33 => 69 | n => n, fun | n => n⟩
theorem laySorted : Go.Proofs.SlLaysZI.n6 Try.prog laySorted_ren := {
  mixed := by kernel_rfl,
  f6 := ⟨Try.f39.name, by decide, Try.func39.trans (congrArg some (by kernel_rfl))⟩,
  f8 := ⟨Try.f58.name, by decide, Try.func58.trans (congrArg some (by kernel_rfl))⟩,
  f11 := ⟨Try.f70.name, by decide, Try.func70.trans (congrArg some (by kernel_rfl))⟩,
  t0 := Try.underlying0,
  a0 := Try.isAgg0,
  z0 := Try.sizeOf0,
  v0 := Try.zeroValue0,
  t24 := Try.underlying82,
  a24 := Try.isAgg82,
  z24 := Try.sizeOf82,
  v24 := Try.zeroValue82,
  t26 := Try.underlying3,
  a26 := Try.isAgg3,
  z26 := Try.sizeOf3,
  v26 := Try.zeroValue3,
  t28 := Try.underlying85,
  a28 := Try.isAgg85,
  z28 := Try.sizeOf85,
  v28 := Try.zeroValue85,
  i26 := by kernel_rfl }

theorem sortsK (m : Nat) : Go.Proofs.AnyZI.SortsIn Try.prog laySorted_ren Fence.wide m :=
  ⟨fun blk off cap ss W hH hblk hsz => callsIn_wide.2 (Go.Proofs.AnyM.slices_Sort_int laySort blk off cap ss W hH hblk hsz),
   fun p cap W => callsIn_wide.2 (Go.Proofs.AnyM.slices_Sort_int_none laySort p cap W)⟩
theorem keys_calls (mb : Nat) (w : World) : Calls Try.prog 40 #[.map (some mb)] w fun e w' => e = .returned (.func (.func 60) #[] #[.pointer (some ⟨w.heap.size, 0, none⟩)]) ∧ w' = w.alloc (.cells #[.map (some mb)] 70) :=
  (callsIn_wide (n := 0)).1 (Go.Proofs.AnyZI.keys_in layKeys Fence.wide 0 trivial rfl (some mb) w)
theorem eqSort (L L' : List Int) (h : L'.Perm L) (hs : L.Pairwise (· < ·)) : L'.mergeSort (fun x y => decide (x ≤ y)) = L := by
  have h1 : L'.mergeSort leI = L.mergeSort leI := mergeSort_of_perm_i h
  show L'.mergeSort leI = L
  rw [h1]
  exact List.mergeSort_of_pairwise (hs.imp (fun {a b} h => by simp only [leI, decide_eq_true_eq]; omega))
theorem sorted_calls (bm mb N : Nat) (w : World) (hB : w.cell? ⟨bm, 0, none⟩ = some (.map (some mb))) (hbm : bm < w.heap.size) {es : Array MapEntry} {clock : Nat} {m : Value → Option Value} (hm : mapAt w mb = some (es, clock)) (hi : IsM Try.prog 3 es clock m)
    (hN : es.size ≤ N) (hM : N ≤ 4096) (L : List Int) (hs : L.Pairwise (· < ·)) (hL : ∀ k : Int, k ∈ L ↔ (m (.int .i64 k)).isSome = true) :
    Calls Try.prog 39 #[.func (.func 60) #[] #[.pointer (some ⟨bm, 0, none⟩)]] w fun e w' => ∃ v, e = .returned v ∧ SlI w' v L ∧ Fr [] w w' ∧ ∀ k, v.ownBlock = some k → w.heap.size ≤ k := by
  have hd : L.Nodup := hs.imp (fun {a b} h => by omega)
  obtain ⟨D0, hown, hperm, hsz⟩ := keys_own Try.underlying3 hm hi hN (by unfold maxLen; omega) hd hL
  have hseq : SeqGives Fence.wide 2 Try.prog 60 #[.pointer (some ⟨bm, 0, none⟩)] encZ (fun ss => ss.Perm (intKeys D0)) (Maps.size D0) w :=
    Go.Proofs.AnyZI.keys_gives (ρ := layKeys_ren) { layKeys with } Fence.wide _ trivial rfl (by omega) bm mb N D0 _ hbm hB hown
  have cS := Go.Proofs.AnyZI.sorted_in laySorted Fence.wide 5 trivial trivial trivial trivial rfl (by omega) (sortsK _) (enters_of Try.func59 (by kernel_rfl) rfl) 60 #[.pointer (some ⟨bm, 0, none⟩)] trivial
    (enters_of Try.func60 (by kernel_rfl) rfl) _ _ (by unfold maxLen; omega) (by omega) _ hseq
  refine ((callsIn_wide (n := 5)).1 cS).mono ?_
  rintro e w' ⟨v, ss, rfl, hS, hrow, _, hb⟩
  refine ⟨v, rfl, ?_, Fr.of_below hb, fun k hk => own_base hrow k hk⟩
  have he := eqSort L ss (hS.trans hperm) hs
  have hlen : ss.length = L.length := (hS.trans hperm).length_eq
  rw [he, hlen] at hrow
  refine SlF.of_owns (base := w.heap.size) (e := 3) (size := 1) ?_
  have hfl : L.flatMap intC = L.map encZ := by
    clear hrow he hlen hs hL hd hperm hS
    induction L with
    | nil => rfl
    | cons x l ih => rw [List.flatMap_cons, ih]; rfl
  rw [hfl]
  exact hrow
end Go.Proofs.Ytknbjdbdpdbeiaa
