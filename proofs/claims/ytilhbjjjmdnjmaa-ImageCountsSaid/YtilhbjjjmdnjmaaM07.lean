/-
  maps.Keys, slices.Sorted at this program: the library's contracts laid; the keys of a map, sorted, as a row.
-/
import Derived.Test.YtilhbjjjmdnjmaaM05
import Derived.Test.YtilhbjjjmdnjmaaM02
import Derived.Test.YtilhbjjjmdnjmaaM06
namespace Go.Proofs.Ytilhbjjjmdnjmaa
open Go.RowKit Go.Maps Go.Sort

set_option maxRecDepth 100000
def layKeys_ren : Go.Shelf.Ren := ⟨fun | 7 => 75 | 10 => 84 | n => n, fun | 23 => 95 | 26 => 3 | 3 => 106 | 28 => 116 | 0 => 0 | 27 => 115 | 33 => 93 | 4 => 4 | n => n, fun | n => n⟩
theorem layKeys : Go.Proofs.SlLaysZI.n7 Try.prog layKeys_ren := {
  mixed := by kernel_rfl,
  f7 := ⟨Try.f75.name, by decide, Try.func75.trans (congrArg some (by kernel_rfl))⟩,
  f10 := ⟨Try.f84.name, by decide, Try.func84.trans (congrArg some (by kernel_rfl))⟩,
  t0 := Try.underlying0,
  a0 := Try.isAgg0,
  z0 := Try.sizeOf0,
  v0 := Try.zeroValue0,
  t4 := Try.underlying4,
  a4 := Try.isAgg4,
  z4 := Try.sizeOf4,
  v4 := Try.zeroValue4,
  t23 := Try.underlying95,
  a23 := Try.isAgg95,
  z23 := Try.sizeOf95,
  v23 := Try.zeroValue95,
  t26 := Try.underlying3,
  a26 := Try.isAgg3,
  z26 := Try.sizeOf3,
  v26 := Try.zeroValue3,
  t27 := Try.underlying115,
  a27 := Try.isAgg115,
  z27 := Try.sizeOf115,
  v27 := Try.zeroValue115,
  t28 := Try.underlying116,
  a28 := Try.isAgg116,
  z28 := Try.sizeOf116,
  v28 := Try.zeroValue116,
  t33 := Try.underlying93,
  a33 := Try.isAgg93,
  z33 := Try.sizeOf93,
  v33 := Try.zeroValue93 }
def laySorted_ren : Go.Shelf.Ren := ⟨fun | 6 => 74 | 8 => 82 | 9 => 83 | 11 => 86 | 13 => 88 | 12 => 87 | 23 => 98 | 24 => 99 | 14 => 89 | 15 => 90 | 16 => 91 | 17 => 92 | 18 => 93 | 19 => 94 | 20 => 95 | 21 => 96 | 22 => 97 | 25 => 100 | 26 => 101 | 27 => 102 | 28 => 103 | 29 => 104 | 30 => 105 | 31 => 106 | n => n, fun | 26 => 3 | 28 => 116 | 24 => 50 | 0 => 0 | 3 => 3 | 37 => 125 | 48 => 136 | 50 => 138 | 4 => 4 | 40 => 128 | 39 => 127 | 45 => 133 | 5 => 5 | 9 => 9 | 51 => 139 | 55 => 143 | 57 => 145 | 58 => 146 | 33 => 93 | n => n, fun | n => n⟩
theorem laySorted : Go.Proofs.SlLaysZI.n6 Try.prog laySorted_ren := {
  mixed := by kernel_rfl,
  f6 := ⟨Try.f74.name, by decide, Try.func74.trans (congrArg some (by kernel_rfl))⟩,
  f8 := ⟨Try.f82.name, by decide, Try.func82.trans (congrArg some (by kernel_rfl))⟩,
  f11 := ⟨Try.f86.name, by decide, Try.func86.trans (congrArg some (by kernel_rfl))⟩,
  t0 := Try.underlying0,
  a0 := Try.isAgg0,
  z0 := Try.sizeOf0,
  v0 := Try.zeroValue0,
  t24 := Try.underlying50,
  a24 := Try.isAgg50,
  z24 := Try.sizeOf50,
  v24 := Try.zeroValue50,
  t26 := Try.underlying3,
  a26 := Try.isAgg3,
  z26 := Try.sizeOf3,
  v26 := Try.zeroValue3,
  t28 := Try.underlying116,
  a28 := Try.isAgg116,
  z28 := Try.sizeOf116,
  v28 := Try.zeroValue116,
  i26 := by kernel_rfl }

theorem sortsK (m : Nat) : Go.Proofs.AnyZI.SortsIn Try.prog laySorted_ren Fence.wide m :=
  ⟨fun blk off cap ss W hH hblk hsz => callsIn_wide.2 (Go.Proofs.AnyM.slices_Sort_int laySort blk off cap ss W hH hblk hsz),
   fun p cap W => callsIn_wide.2 (Go.Proofs.AnyM.slices_Sort_int_none laySort p cap W)⟩
theorem keys_calls (mb : Nat) (w : World) : Calls Try.prog 75 #[.map (some mb)] w fun e w' => e = .returned (.func (.func 84) #[] #[.pointer (some ⟨w.heap.size, 0, none⟩)]) ∧ w' = w.alloc (.cells #[.map (some mb)] 95) :=
  (callsIn_wide (n := 0)).1 (Go.Proofs.AnyZI.keys_in layKeys Fence.wide 0 trivial rfl (some mb) w)
theorem eqSort (L L' : List Int) (h : L'.Perm L) (hs : L.Pairwise (· < ·)) : L'.mergeSort (fun x y => decide (x ≤ y)) = L := by
  have h1 : L'.mergeSort leI = L.mergeSort leI := mergeSort_of_perm_i h
  show L'.mergeSort leI = L
  rw [h1]
  exact List.mergeSort_of_pairwise (hs.imp (fun {a b} h => by simp only [leI, decide_eq_true_eq]; omega))
theorem sorted_calls (bm mb N : Nat) (w : World) (hB : w.cell? ⟨bm, 0, none⟩ = some (.map (some mb))) (hbm : bm < w.heap.size) {es : Array MapEntry} {clock : Nat} {m : Value → Option Value} (hm : mapAt w mb = some (es, clock)) (hi : IsM Try.prog 3 es clock m)
    (hN : es.size ≤ N) (hM : N ≤ 4096) (L : List Int) (hs : L.Pairwise (· < ·)) (hL : ∀ k : Int, k ∈ L ↔ (m (.int .i64 k)).isSome = true) :
    Calls Try.prog 74 #[.func (.func 84) #[] #[.pointer (some ⟨bm, 0, none⟩)]] w fun e w' => ∃ v, e = .returned v ∧ SlI w' v L ∧ Fr [] w w' ∧ ∀ k, v.ownBlock = some k → w.heap.size ≤ k := by
  have hd : L.Nodup := hs.imp (fun {a b} h => by omega)
  obtain ⟨D0, hown, hperm, hsz⟩ := keys_own Try.underlying3 hm hi hN (by unfold maxLen; omega) hd hL
  have hseq : SeqGives Fence.wide 2 Try.prog 84 #[.pointer (some ⟨bm, 0, none⟩)] encZ (fun ss => ss.Perm (intKeys D0)) (Maps.size D0) w :=
    Go.Proofs.AnyZI.keys_gives (ρ := layKeys_ren) { layKeys with } Fence.wide _ trivial rfl (by omega) bm mb N D0 _ hbm hB hown
  have cS := Go.Proofs.AnyZI.sorted_in laySorted Fence.wide 5 trivial trivial trivial trivial rfl (by omega) (sortsK _) (enters_of Try.func83 (by kernel_rfl) rfl) 84 #[.pointer (some ⟨bm, 0, none⟩)] trivial
    (enters_of Try.func84 (by kernel_rfl) rfl) _ _ (by unfold maxLen; omega) (by omega) _ hseq
  refine ((callsIn_wide (n := 5)).1 cS).mono ?_
  rintro e w' ⟨v, ss, rfl, hS, hrow, _, hb⟩
  refine ⟨v, rfl, ?_, Fr.of_below hb, fun k hk => own_base hrow k hk⟩
  have he := eqSort L ss (hS.trans hperm) hs
  have hlen : ss.length = L.length := (hS.trans hperm).length_eq
  rw [he, hlen] at hrow
  refine SlF.of_owns (base := w.heap.size) (e := 3) (size := 1) ?_
  have hfl : L.flatMap intC = L.map encZ := by
    clear hrow he hlen hs hL hd hperm hS
    induction L with
    | nil => rfl
    | cons x l ih => rw [List.flatMap_cons, ih]; rfl
  rw [hfl]
  exact hrow
end Go.Proofs.Ytilhbjjjmdnjmaa
