/-
  maps.Keys, slices.Sorted at this program: the library's contracts laid; the keys of a map, sorted, as a row.
-/
import Derived.Test.YtilhbjjjmdnjmaaGreatM05
import Derived.Test.YtilhbjjjmdnjmaaGreatM02
import Derived.Test.YtilhbjjjmdnjmaaGreatM06
namespace Go.Proofs.YtilhbjjjmdnjmaaGreat
open Go.RowKit Go.Maps Go.Sort

set_option maxRecDepth 100000
def layKeys_ren : Go.Shelf.Ren := ⟨fun | 7 => 105 | 10 => 111 | n => n, fun | 23 => 122 | 26 => 3 | 3 => 136 | 28 => 165 | 0 => 0 | 27 => 164 | 33 => 121 | 4 => 4 | n => n, fun | n => n⟩
theorem layKeys : Go.Proofs.SlLaysZI.n7 Tryz.prog layKeys_ren := {
  mixed := by kernel_rfl,
  f7 := ⟨Tryz.f105.name, by decide, Tryz.func105.trans (congrArg some (by kernel_rfl))⟩,
  f10 := ⟨Tryz.f111.name, by decide, Tryz.func111.trans (congrArg some (by kernel_rfl))⟩,
  t0 := Tryz.underlying0,
  a0 := Tryz.isAgg0,
  z0 := Tryz.sizeOf0,
  v0 := Tryz.zeroValue0,
  t4 := Tryz.underlying4,
  a4 := Tryz.isAgg4,
  z4 := Tryz.sizeOf4,
  v4 := Tryz.zeroValue4,
  t23 := Tryz.underlying122,
  a23 := Tryz.isAgg122,
  z23 := Tryz.sizeOf122,
  v23 := Tryz.zeroValue122,
  t26 := Tryz.underlying3,
  a26 := Tryz.isAgg3,
  z26 := Tryz.sizeOf3,
  v26 := Tryz.zeroValue3,
  t27 := Tryz.underlying164,
  a27 := Tryz.isAgg164,
  z27 := Tryz.sizeOf164,
  v27 := Tryz.zeroValue164,
  t28 := Tryz.underlying165,
  a28 := Tryz.isAgg165,
  z28 := Tryz.sizeOf165,
  v28 := Tryz.zeroValue165,
  t33 := Tryz.underlying121,
  a33 := Tryz.isAgg121,
  z33 := Tryz.sizeOf121,
  v33 := Tryz.zeroValue121 }
def laySorted_ren : Go.Shelf.Ren := ⟨fun | 6 => 104 | 8 => 109 | 9 => 110 | 11 => 112 | 13 => 114 | 12 => 113 | 23 => 124 | 24 => 125 | 14 => 115 | 15 => 116 | 16 => 117 | 17 => 118 | 18 => 119 | 19 => 120 | 20 => 121 | 21 => 122 | 22 => 123 | 25 => 126 | 26 => 127 | 27 => 128 | 28 => 129 | 29 => 130 | 30 => 131 | 31 => 132 | n => n, fun | 26 => 3 | 28 => 165 | 24 => 57 | 0 => 0 | 3 => 3 | 37 => 173 | 48 => 184 | 50 => 186 | 4 => 4 | 40 => 176 | 39 => 175 | 45 => 181 | 5 => 5 | 9 => 9 | 51 => 187 | 55 => 191 | 57 => 193 | 58 => 194 | 33 => 121 | n => n, fun | n => n⟩
theorem laySorted : Go.Proofs.SlLaysZI.n6 Tryz.prog laySorted_ren := {
  mixed := by kernel_rfl,
  f6 := ⟨Tryz.f104.name, by decide, Tryz.func104.trans (congrArg some (by kernel_rfl))⟩,
  f8 := ⟨Tryz.f109.name, by decide, Tryz.func109.trans (congrArg some (by kernel_rfl))⟩,
  f11 := ⟨Tryz.f112.name, by decide, Tryz.func112.trans (congrArg some (by kernel_rfl))⟩,
  t0 := Tryz.underlying0,
  a0 := Tryz.isAgg0,
  z0 := Tryz.sizeOf0,
  v0 := Tryz.zeroValue0,
  t24 := Tryz.underlying57,
  a24 := Tryz.isAgg57,
  z24 := Tryz.sizeOf57,
  v24 := Tryz.zeroValue57,
  t26 := Tryz.underlying3,
  a26 := Tryz.isAgg3,
  z26 := Tryz.sizeOf3,
  v26 := Tryz.zeroValue3,
  t28 := Tryz.underlying165,
  a28 := Tryz.isAgg165,
  z28 := Tryz.sizeOf165,
  v28 := Tryz.zeroValue165,
  i26 := by kernel_rfl }

theorem sortsK (m : Nat) : Go.Proofs.AnyZI.SortsIn Tryz.prog laySorted_ren Fence.wide m :=
  ⟨fun blk off cap ss W hH hblk hsz => callsIn_wide.2 (Go.Proofs.AnyM.slices_Sort_int laySort blk off cap ss W hH hblk hsz),
   fun p cap W => callsIn_wide.2 (Go.Proofs.AnyM.slices_Sort_int_none laySort p cap W)⟩
theorem keys_calls (mb : Nat) (w : World) : Calls Tryz.prog 105 #[.map (some mb)] w fun e w' => e = .returned (.func (.func 111) #[] #[.pointer (some ⟨w.heap.size, 0, none⟩)]) ∧ w' = w.alloc (.cells #[.map (some mb)] 122) :=
  (callsIn_wide (n := 0)).1 (Go.Proofs.AnyZI.keys_in layKeys Fence.wide 0 trivial rfl (some mb) w)
theorem eqSort (L L' : List Int) (h : L'.Perm L) (hs : L.Pairwise (· < ·)) : L'.mergeSort (fun x y => decide (x ≤ y)) = L := by
  have h1 : L'.mergeSort leI = L.mergeSort leI := mergeSort_of_perm_i h
  show L'.mergeSort leI = L
  rw [h1]
  exact List.mergeSort_of_pairwise (hs.imp (fun {a b} h => by simp only [leI, decide_eq_true_eq]; omega))
theorem sorted_calls (bm mb N : Nat) (w : World) (hB : w.cell? ⟨bm, 0, none⟩ = some (.map (some mb))) (hbm : bm < w.heap.size) {es : Array MapEntry} {clock : Nat} {m : Value → Option Value} (hm : mapAt w mb = some (es, clock)) (hi : IsM Tryz.prog 3 es clock m)
    (hN : es.size ≤ N) (hM : N ≤ 4096) (L : List Int) (hs : L.Pairwise (· < ·)) (hL : ∀ k : Int, k ∈ L ↔ (m (.int .i64 k)).isSome = true) :
    Calls Tryz.prog 104 #[.func (.func 111) #[] #[.pointer (some ⟨bm, 0, none⟩)]] w fun e w' => ∃ v, e = .returned v ∧ SlI w' v L ∧ Fr [] w w' ∧ ∀ k, v.ownBlock = some k → w.heap.size ≤ k := by
  have hd : L.Nodup := hs.imp (fun {a b} h => by omega)
  obtain ⟨D0, hown, hperm, hsz⟩ := keys_own Tryz.underlying3 hm hi hN (by unfold maxLen; omega) hd hL
  have hseq : SeqGives Fence.wide 2 Tryz.prog 111 #[.pointer (some ⟨bm, 0, none⟩)] encZ (fun ss => ss.Perm (intKeys D0)) (Maps.size D0) w :=
    Go.Proofs.AnyZI.keys_gives (ρ := layKeys_ren) { layKeys with } Fence.wide _ trivial rfl (by omega) bm mb N D0 _ hbm hB hown
  have cS := Go.Proofs.AnyZI.sorted_in laySorted Fence.wide 5 trivial trivial trivial trivial rfl (by omega) (sortsK _) (enters_of Tryz.func110 (by kernel_rfl) rfl) 111 #[.pointer (some ⟨bm, 0, none⟩)] trivial
    (enters_of Tryz.func111 (by kernel_rfl) rfl) _ _ (by unfold maxLen; omega) (by omega) _ hseq
  refine ((callsIn_wide (n := 5)).1 cS).mono ?_
  rintro e w' ⟨v, ss, rfl, hS, hrow, _, hb⟩
  refine ⟨v, rfl, ?_, Fr.of_below hb, fun k hk => own_base hrow k hk⟩
  have he := eqSort L ss (hS.trans hperm) hs
  have hlen : ss.length = L.length := (hS.trans hperm).length_eq
  rw [he, hlen] at hrow
  refine SlF.of_owns (base := w.heap.size) (e := 3) (size := 1) ?_
  have hfl : L.flatMap intC = L.map encZ := by
    clear hrow he hlen hs hL hd hperm hS
    induction L with
    | nil => rfl
    | cons x l ih => rw [List.flatMap_cons, ih]; rfl
  rw [hfl]
  exact hrow
end Go.Proofs.YtilhbjjjmdnjmaaGreat
