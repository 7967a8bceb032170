/-
  slices.Sorted(maps.Keys(m)) of a map keyed by texts: the library's contracts laid; its keys, sorted, as a row.
-/
import Derived.Test.YtiifmakhfpllnaaM00
import Derived.Test.YtiifmakhfpllnaaM09
import Derived.Test.YtiifmakhfpllnaaM06
import Derived.Shelf.SlIter.Nil
namespace Go.Proofs.Ytiifmakhfpllnaa
open Go.RowKit Go.Maps Go.Sort
open Go.WideElems (rg)
open Go.WideShapes (sorted_perm)

/-- rows of texts -/
abbrev strC (l : List UInt8) : List Value := [strL l]
abbrev SlT := SlF strC
theorem SlT.at {w : World} {a : Option Addr} {cap n : Nat} {l : List (List UInt8)} (h : SlT w (.slice a n cap) l) {i : Nat} (hi : i < l.length) : ∃ b off, a = some ⟨b, off, none⟩ ∧ b < w.heap.size ∧
    w.cell? ⟨b, off + i, none⟩ = some (strL (l.getD i [])) := by
  obtain ⟨a', cap', hv, _, _, hc⟩ := h.open
  cases hv
  obtain ⟨b, off, rfl, hb, hc⟩ := hc 1 (fun _ => rfl) (by omega) i _ (getD_some [] hi)
  have := hc 0 _ rfl
  rw [Nat.mul_one, Nat.add_zero] at this
  exact ⟨b, off, rfl, hb, this⟩
theorem keysS_own {P : Program} {K : TypeId} (hk : P.underlying K = some .string) {w : World} {mb clock N : Nat} {es : Array MapEntry} {m : Value → Option Value} (hm : mapAt w mb = some (es, clock)) (hi : IsM P K es clock m) (hN : es.size ≤ N) (hM : N ≤ maxLen)
    {L : List (List UInt8)} (hd : L.Nodup) (hL : ∀ k : List UInt8, k ∈ L ↔ (m (strL k)).isSome = true) :
    ∃ D0 : DataW Unit, w.ownsMap P K (fun _ => some (.nil, [])) mb N D0 ∧ (strKeys D0).Perm L ∧ Maps.size D0 ≤ N := by
  have hkey : ∀ x ∈ es.toList, ∃ a, x.key = encStr a ∧ (rg (H := Unit) P K (fun _ => some (.nil, [])) x).1 = .string a := by
    intro x hx
    obtain ⟨l, hl⟩ := hi.keys x hx
    obtain ⟨a, ha, rfl, _⟩ := Maps.keyOf_str hk hl
    exact ⟨a, ha, by simp [Go.WideElems.rg, Go.WideElems.rd, hl]⟩
  refine ⟨_, ⟨es, clock, mapAt_some.1 hm, ⟨by omega, ⟨hi.born, ?_, ?_⟩, ?_⟩, hN, rfl⟩, ?_, ?_⟩
  · rw [List.Nodup, List.pairwise_map]; exact hi.stamps
  · rw [List.Nodup, List.pairwise_map]; exact hi.apart
  · intro x hx
    obtain ⟨l, hl⟩ := hi.keys x hx
    exact ⟨(l, .nil), by simp [Go.WideElems.rd, hl]⟩
  · have h1 : (strKeys (.map ((es.toList.map (rg (H := Unit) P K (fun _ => some (.nil, [])))).foldr DataW.insert []))).Perm ((es.toList.map (rg (H := Unit) P K (fun _ => some (.nil, [])))).map fun p => strOf p.1) := (sorted_perm _).map _
    refine h1.trans ?_
    rw [List.map_map]
    refine (List.perm_ext_iff_of_nodup ?_ hd).2 fun k => ?_
    · rw [List.Nodup, List.pairwise_map]
      refine hi.apart.imp_of_mem fun {a b} ha hb hne e => hne ?_
      obtain ⟨x, h2, h3⟩ := hkey a ha
      obtain ⟨y, h4, h5⟩ := hkey b hb
      simp only [Function.comp] at e
      rw [h3, h5] at e
      have e : x = y := e
      rw [h2, h4, e]
    · rw [hL, List.mem_map]
      constructor
      · rintro ⟨x, hx, h⟩
        obtain ⟨a, h2, h3⟩ := hkey x hx
        simp only [Function.comp] at h
        rw [h3] at h
        have h4 : a = k := h
        subst h4
        rw [(hi.get (strL a) x.val).2 ⟨x, hx, h2, rfl⟩]
        rfl
      · intro h
        obtain ⟨v, hv⟩ := Option.isSome_iff_exists.1 h
        obtain ⟨x, hx, h2, _⟩ := (hi.get _ v).1 hv
        obtain ⟨a, h3, h4⟩ := hkey x hx
        refine ⟨x, hx, ?_⟩
        simp only [Function.comp]
        rw [h4]
        rw [h3] at h2
        exact encStr_inj h2
  · show ((es.toList.map (rg (H := Unit) P K (fun _ => some (.nil, [])))).foldr DataW.insert []).length ≤ N
    rw [(sorted_perm _).length_eq, List.length_map, Array.length_toList]
    exact hN
set_option maxRecDepth 100000
def layKeysS_ren : Go.Shelf.Ren := ⟨fun | 7 => 36 | 10 => 74 | n => n, fun | 23 => 59 | 26 => 9 | 3 => 66 | 28 => 69 | 0 => 0 | 27 => 68 | 33 => 107 | 4 => 4 | n => n, fun | n => n⟩
theorem layKeysS : Go.Proofs.SlLaysZ.n7 Try.prog layKeysS_ren := {
  mixed := by kernel_rfl,
  f7 := ⟨Try.f36.name, by decide, Try.func36.trans (congrArg some (by kernel_rfl))⟩,
  f10 := ⟨Try.f74.name, by decide, Try.func74.trans (congrArg some (by kernel_rfl))⟩,
  t0 := Try.underlying0,
  a0 := Try.isAgg0,
  z0 := Try.sizeOf0,
  v0 := Try.zeroValue0,
  t4 := Try.underlying4,
  a4 := Try.isAgg4,
  z4 := Try.sizeOf4,
  v4 := Try.zeroValue4,
  t23 := Try.underlying59,
  a23 := Try.isAgg59,
  z23 := Try.sizeOf59,
  v23 := Try.zeroValue59,
  t26 := Try.underlying9,
  a26 := Try.isAgg9,
  z26 := Try.sizeOf9,
  v26 := Try.zeroValue9,
  t27 := Try.underlying68,
  a27 := Try.isAgg68,
  z27 := Try.sizeOf68,
  v27 := Try.zeroValue68,
  t28 := Try.underlying69,
  a28 := Try.isAgg69,
  z28 := Try.sizeOf69,
  v28 := Try.zeroValue69,
  t33 := Try.underlying107,
  a33 := Try.isAgg107,
  z33 := Try.sizeOf107,
  v33 := Try.zeroValue107 }
def laySortedS_ren : Go.Shelf.Ren := ⟨fun | 6 => 35 | 8 => 72 | 9 => 73 | 11 => 91 | 13 => 93 | 12 => 92 | 23 => 107 | 24 => 108 | 14 => 98 | 15 => 99 | 16 => 100 | 17 => 101 | 18 => 102 | 19 => 103 | 20 => 104 | 21 => 105 | 22 => 106 | 25 => 112 | 26 => 113 | 27 => 114 | 28 => 115 | 29 => 116 | 30 => 117 | 31 => 119 | n => n, fun | 26 => 9 | 28 => 69 | 24 => 32 | 0 => 0 | 3 => 3 | 37 => 126 | 48 => 144 | 50 => 146 | 4 => 4 | 40 => 137 | 39 => 136 | 45 => 121 | 5 => 5 | 9 => 9 | 51 => 148 | 55 => 152 | 57 => 155 | 58 => 156 | 33 => 107 | n => n, fun | n => n⟩
theorem laySortedS : Go.Proofs.SlLaysZ.n6 Try.prog laySortedS_ren := {
  mixed := by kernel_rfl,
  f6 := ⟨Try.f35.name, by decide, Try.func35.trans (congrArg some (by kernel_rfl))⟩,
  f8 := ⟨Try.f72.name, by decide, Try.func72.trans (congrArg some (by kernel_rfl))⟩,
  f11 := ⟨Try.f91.name, by decide, Try.func91.trans (congrArg some (by kernel_rfl))⟩,
  t0 := Try.underlying0,
  a0 := Try.isAgg0,
  z0 := Try.sizeOf0,
  v0 := Try.zeroValue0,
  t24 := Try.underlying32,
  a24 := Try.isAgg32,
  z24 := Try.sizeOf32,
  v24 := Try.zeroValue32,
  t26 := Try.underlying9,
  a26 := Try.isAgg9,
  z26 := Try.sizeOf9,
  v26 := Try.zeroValue9,
  t28 := Try.underlying69,
  a28 := Try.isAgg69,
  z28 := Try.sizeOf69,
  v28 := Try.zeroValue69,
  i26 := by kernel_rfl }
theorem sortsS (m : Nat) : Go.Proofs.AnyZ.SortsIn Try.prog laySortedS_ren Fence.wide m :=
  ⟨fun blk off cap ss W hH hblk hsz => callsIn_wide.2 (Go.Proofs.AnyM.slices_Sort_string laySortS blk off cap ss W hH hblk hsz),
   fun p cap W => callsIn_wide.2 (Go.Proofs.AnyM.slices_Sort_string_none laySortS p cap W)⟩
theorem keysS_calls (mb : Nat) (w : World) : Calls Try.prog 36 #[.map (some mb)] w fun e w' => e = .returned (.func (.func 74) #[] #[.pointer (some ⟨w.heap.size, 0, none⟩)]) ∧ w' = w.alloc (.cells #[.map (some mb)] 59) :=
  (callsIn_wide (n := 0)).1 (Go.Proofs.AnyZ.keys_in layKeysS Fence.wide 0 trivial rfl (some mb) w)
theorem eqSortS (L L' : List (List UInt8)) (h : L'.Perm L) (hs : L.Pairwise (· < ·)) : L'.mergeSort (fun x y => decide (x ≤ y)) = L := by
  have h1 : L'.mergeSort leB = L.mergeSort leB := mergeSort_of_perm h
  show L'.mergeSort leB = L
  rw [h1]
  exact List.mergeSort_of_pairwise (hs.imp (fun {a b} h => by simp only [leB, decide_eq_true_eq]; exact List.le_of_lt h))
theorem sortedS_calls (bm mb N : Nat) (w : World) (hB : w.cell? ⟨bm, 0, none⟩ = some (.map (some mb))) (hbm : bm < w.heap.size) {es : Array MapEntry} {clock : Nat} {m : Value → Option Value} (hm : mapAt w mb = some (es, clock)) (hi : IsM Try.prog 9 es clock m)
    (hN : es.size ≤ N) (hM : N ≤ 4096) (L : List (List UInt8)) (hs : L.Pairwise (· < ·)) (hL : ∀ k : List UInt8, k ∈ L ↔ (m (strL k)).isSome = true) :
    Calls Try.prog 35 #[.func (.func 74) #[] #[.pointer (some ⟨bm, 0, none⟩)]] w fun e w' => ∃ v, e = .returned v ∧ SlT w' v L ∧ Fr [] w w' ∧ ∀ k, v.ownBlock = some k → w.heap.size ≤ k := by
  have hd : L.Nodup := hs.imp (fun {a b} h e => by subst e; exact List.lt_irrefl _ h)
  obtain ⟨D0, hown, hperm, hsz⟩ := keysS_own Try.underlying9 hm hi hN (by unfold maxLen; omega) hd hL
  have hseq : SeqGives Fence.wide 2 Try.prog 74 #[.pointer (some ⟨bm, 0, none⟩)] encStr (fun ss => ss.Perm (strKeys D0)) (Maps.size D0) w :=
    Go.Proofs.AnyZ.keys_gives (ρ := layKeysS_ren) { layKeysS with } Fence.wide _ trivial rfl (by omega) bm mb N D0 _ hbm hB hown
  have cS := Go.Proofs.AnyZ.sorted_in laySortedS Fence.wide 5 trivial trivial trivial trivial rfl (by omega) (sortsS _) (enters_of Try.func73 (by kernel_rfl) rfl) 74 #[.pointer (some ⟨bm, 0, none⟩)] trivial
    (enters_of Try.func74 (by kernel_rfl) rfl) _ _ (by unfold maxLen; omega) (by omega) _ hseq
  refine ((callsIn_wide (n := 5)).1 cS).mono ?_
  rintro e w' ⟨v, ss, rfl, hS, hrow, _, hb⟩
  refine ⟨v, rfl, ?_, Fr.of_below hb, fun k hk => own_base hrow k hk⟩
  have he := eqSortS L ss (hS.trans hperm) hs
  have hlen : ss.length = L.length := (hS.trans hperm).length_eq
  rw [he, hlen] at hrow
  refine SlF.of_owns (base := w.heap.size) (e := 9) (size := 1) ?_
  have hfl : L.flatMap strC = L.map encStr := by
    clear hrow he hlen hs hL hd hperm hS
    induction L with
    | nil => rfl
    | cons x l ih => rw [List.flatMap_cons, ih]; rfl
  rw [hfl]
  exact hrow
end Go.Proofs.Ytiifmakhfpllnaa
