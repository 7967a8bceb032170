/-
  check.all: its iterator: all slots, row by row.
-/
import Derived.Test.YtmbbmombhkaeoaaChkC
import Derived.Test.YtmbbmombhkaeoaaSeq
import Derived.RangeFuncBound
import Derived.Shelf.RegionOpen
import Derived.OwnWalkIn
import Derived.TacticsInMore
import Derived.LoopNIn
import Derived.LoopIn
namespace Go.Proofs.Ytmbbmombhkaeoaa
open Go.RowKit
attribute [local go_sem] Oper.semAt_some

/-- a row: how long it is, where it lies -/
def rowN : Value → Nat
  | .slice _ n _ => n
  | _ => 0
def rowB : Value → Nat
  | .slice (some p) _ _ => p.block
  | _ => 0
def rowO : Value → Nat
  | .slice (some p) _ _ => p.off
  | _ => 0
def RowV (u : Value) : Prop := ∃ a n c, u = .slice a n c ∧ n ≤ 1048576 ∧ (0 < n → ∃ b off, a = some ⟨b, off, none⟩)
/-- how many slots come ahead of row i -/
def cum (vs : List Value) (i : Nat) : Nat := ((vs.take i).map rowN).sum
theorem cum_zero (vs : List Value) : cum vs 0 = 0 := by simp [cum]
theorem cum_succ {vs : List Value} {i : Nat} (h : i < vs.length) : cum vs (i + 1) = cum vs i + rowN (vs.getD i undef) := by
  have hg : vs[i] = vs.getD i undef := by rw [List.getD_eq_getElem?_getD, List.getElem?_eq_getElem h]; rfl
  unfold cum
  rw [List.take_succ_eq_append_getElem h, hg, List.map_append, List.sum_append]
  simp
theorem cum_le (vs : List Value) {i : Nat} (_ : i ≤ vs.length) : cum vs i ≤ cum vs vs.length := by
  have e : vs = vs.take i ++ vs.drop i := (List.take_append_drop i vs).symm
  unfold cum
  rw [List.take_length]
  conv => rhs; rw [e, List.map_append, List.sum_append]
  omega
theorem Sl.cellAt {w : World} {a : Option Addr} {n cap : Nat} {xs : List Value} (h : Sl w (.slice a n cap) n xs) {i : Nat} (hi : i < xs.length) : ∃ b off, a = some ⟨b, off, none⟩ ∧ b < w.heap.size ∧ w.cell? ⟨b, off + i, none⟩ = some (xs.getD i undef) := by
  obtain ⟨a', cap', hv, _, _, hc⟩ := h
  cases hv
  rcases hc with he | ⟨b, off, rfl, hb, hc⟩
  · rw [he] at hi; simp at hi
  · exact ⟨b, off, rfl, hb, hc i _ (getD_some undef hi)⟩
/-- what is handed out: the row's number, a new block with the slot's number and where it lies -/
def encA (s : Nat) (vs : List Value) (m : Nat) (A : World) (args : Array Value) : Prop :=
  ∃ i k pb, i < vs.length ∧ k < rowN (vs.getD i undef) ∧ m = cum vs i + k ∧ s ≤ pb ∧ args = #[.int .i64 (i : Nat), .pointer (some ⟨pb, 0, none⟩)] ∧
    Blk A pb [.int .i64 (m : Nat), .pointer (some ⟨rowB (vs.getD i undef), rowO (vs.getD i undef) + k * 3, none⟩)] 58
theorem all_calls (v : Value) (w : World) (hv : ∃ a n c, v = .slice a n c) : Calls Try.prog 24 #[v] w fun e w' => ∃ bt, e = .returned (.func (.func 32) #[] #[.pointer (some ⟨bt, 0, none⟩)]) ∧ Blk w' bt [v] 29 ∧ Fr [] w w' ∧ w.heap.size ≤ bt := by
  obtain ⟨a, n, c, rfl⟩ := hv
  go_enter Try.func24, Try.ntmps24
  go_wp2
  go_ret
  exact ⟨_, rfl, Blk.new w [_] _, (Fr.refl _ _).alloc _, Nat.le_refl _⟩
set_option maxRecDepth 100000 in
set_option maxHeartbeats 2000000 in
theorem all_seq (bt : Nat) (a : Option Addr) (cap : Nat) (vs : List Value) (w : World) (hbt : Blk w bt [.slice a vs.length cap] 29) (hv : Sl w (.slice a vs.length cap) vs.length vs) (hr : ∀ u ∈ vs, RowV u) (htot : cum vs vs.length ≤ 1048576) :
    Seq Try.prog 32 #[.pointer (some ⟨bt, 0, none⟩)] [] (fun x => x = bt ∨ (0 < vs.length ∧ ∃ p, a = some p ∧ p.block = x)) (cum vs vs.length) (encA w.heap.size vs) w := by
  intro lp J Jx fp W hFW hl1 hl2 hst hsx hfp hJ hY
  have hbW := hbt.fr0 hFW
  have hvW := hv.fr0 hFW
  have hszW := hFW.size
  have hvs : vs.length ≤ maxLen := hv.le
  unfold maxLen at hvs
  have c1 := hbW.cell
  have l1 := hbW.lt
  have hJ0 : J (cum vs 0) fp W := by rw [cum_zero]; exact hJ
  have hfp0 : ∀ x ∈ fp, x < W.heap.size ∧ x ≠ bt ∧ ∀ p, a = some p → 0 < vs.length → p.block ≠ x := fun x hx => by
    obtain ⟨h1, h2⟩ := hfp x hx
    exact ⟨h1, fun h => h2 (.inl h), fun p hp h0 he => h2 (.inr ⟨h0, p, hp, he⟩)⟩
  have Hcum : ∀ i, i < vs.length → Hid (cum vs (i + 1) = cum vs i + rowN (vs.getD i undef)) := fun i hi => hidIt (cum_succ hi)
  have Hle : ∀ i, i ≤ vs.length → cum vs i ≤ 1048576 := fun i hi => Nat.le_trans (cum_le vs hi) htot
  have Hrow : ∀ i, i < vs.length → RowV (vs.getD i undef) := fun i hi => hr _ (by rw [List.getD_eq_getElem?_getD, List.getElem?_eq_getElem hi]; exact List.getElem_mem _)
  have HY : ∀ i k, i < vs.length → k < rowN (vs.getD i undef) → cum vs i + k < cum vs vs.length := fun i k hi hk => by
    have := cum_le vs (show i + 1 ≤ vs.length by omega)
    rw [cum_succ hi] at this
    omega
  refine callsIn_of_wp Try.func32 rfl trivial ?_ rfl
  simp only [Try.ntmps32, List.size_toArray, List.length_cons, List.length_nil, Nat.reduceAdd, Nat.reduceSub, Array.replicate_succ, Array.replicate_zero, List.push_toArray, List.append_toArray, List.nil_append, List.cons_append]
  clear hbt hv hJ hfp hFW
  gi_wp2_with fail
  gi_loopw [3, 8] (fun x i wr => ∃ (j : Nat) (f : List Nat), j ≤ vs.length ∧ i = .int .i64 j ∧ x = .int .i64 (cum vs j : Nat) ∧ J (cum vs j) f wr ∧ (∀ x ∈ f, x < wr.heap.size ∧ x ≠ bt ∧ ∀ p, a = some p → 0 < vs.length → p.block ≠ x) ∧ Blk wr bt [.slice a vs.length cap] 29 ∧ Sl wr (.slice a vs.length cap) vs.length vs ∧ W.heap.size ≤ wr.heap.size) (fun _ i _ => vs.length - (intOf i).toNat)
  case atStart => exact ⟨0, fp, Nat.zero_le _, rfl, rfl, hJ0, hfp0, hbW, hvW, Nat.le_refl _⟩
  case round =>
    clear hJ0 hfp0 hbW hvW c1 l1
    obtain ⟨j, f, hj, rfl, rfl, hJj, hf, hb, hsl, hsz⟩ := hrel
    have c1 := hb.cell
    have l1 := hb.lt
    by_cases hlt : j < vs.length
    · obtain ⟨b, off, rfl, hbl, d0⟩ := Sl.cellAt hsl hlt
      obtain ⟨ar, nr, cr, hu, hn1, hn2⟩ := Hrow j hlt
      have hcum := Hcum j hlt
      have hyy0 := fun k => HY j k hlt
      have hle := Hle j hj
      rw [hu] at d0 hcum hyy0
      simp only [rowN] at hcum hyy0
      have henc : ∀ k A pb, k < nr → w.heap.size ≤ pb → Blk A pb [.int .i64 ((cum vs j + k : Nat) : Int), .pointer (some ⟨rowB (.slice ar nr cr), rowO (.slice ar nr cr) + k * 3, none⟩)] 58 → encA w.heap.size vs (cum vs j + k) A #[.int .i64 (j : Nat), .pointer (some ⟨pb, 0, none⟩)] := fun k A pb hk hpb hB =>
        ⟨j, k, pb, hlt, by rw [hu]; exact hk, rfl, hpb, rfl, by rw [hu]; exact hB⟩
      clear Hcum Hle Hrow HY hu htot
      generalize cum vs j = C at *
      gi_wp2_with fail
      gi_loopw [3, 16] (fun x i W2 => ∃ (k M : Nat) (f : List Nat), k ≤ nr ∧ i = .int .i64 k ∧ Hid (M = C + k) ∧ x = .int .i64 (M : Int) ∧ J M f W2 ∧ (∀ x ∈ f, x < W2.heap.size ∧ x ≠ bt ∧ b ≠ x) ∧ Blk W2 bt [.slice (some ⟨b, off, none⟩) vs.length cap] 29 ∧ Sl W2 (.slice (some ⟨b, off, none⟩) vs.length cap) vs.length vs ∧ W2.cell? ⟨b, off + j, none⟩ = some (.slice ar nr cr) ∧ b < W2.heap.size ∧ W.heap.size ≤ W2.heap.size) (fun _ i _ => nr - (intOf i).toNat)
      case atStart => exact ⟨0, C, f, Nat.zero_le _, rfl, hidIt rfl, rfl, hJj, fun x hx => ⟨(hf x hx).1, (hf x hx).2.1, (hf x hx).2.2 _ rfl (by omega)⟩, hb, hsl, d0, hbl, hsz⟩
      case round =>
        clear hJj hf hb hsl hsz hbl d0 f c1 l1
        obtain ⟨k, M, f, hk, rfl, hMk, rfl, hJk, hf, hb, hsl, d0, hbl, hsz⟩ := hrel
        have c1 := hb.cell
        have l1 := hb.lt
        by_cases hkl : k < nr
        · obtain ⟨b2, off2, rfl⟩ := hn2 (by omega)
          have hM2 : M ≤ 2097152 := by have := hMk.out; omega
          have hFa : Fr [] wr (wr.alloc (.cells #[.int .i64 (M : Int), .pointer (some ⟨b2, off2 + k * 3, none⟩)] 58)) := (Fr.refl _ _).alloc _
          have hy := hY M f _ _ (by have := hyy0 k hkl; have := hMk.out; omega) (hst _ _ _ _ [] hJk hFa (fun x h => by cases h)) (by have := henc k (wr.alloc (.cells #[.int .i64 (M : Int), .pointer (some ⟨b2, off2 + k * 3, none⟩)] 58)) wr.heap.size hkl (by omega) (by rw [← hMk.out]; exact Blk.new wr [_, _] _); rw [← hMk.out] at this; exact this)
          have hb' := hb.fr0 hFa
          have hsl' := hsl.fr0 hFa
          have d0' : (wr.alloc (.cells #[.int .i64 (M : Int), .pointer (some ⟨b2, off2 + k * 3, none⟩)] 58)).cell? ⟨b, off + j, none⟩ = some (.slice (some ⟨b2, off2, none⟩) nr cr) := (World.cell?_of_block (hFa.block b hbl (by simp))).trans d0
          have hsza := hFa.size
          obtain ⟨fn', tmps', assign', body', hyy, hR⟩ := hy
          clear hY hst hJk hb hsl henc
          gi_wp2_with fail
          refine ⟨rfl, hR.mono ?_⟩
          clear hR hyy
          rintro e w4 (⟨rfl, f', hj4, hf4, hg4⟩ | ⟨rfl, hjx⟩)
          · have q4 := hf4.size
            simp only [World.size_alloc] at q4 hsza hg4
            have hb4 := hb'.fr hf4 (fun h => (hf _ h).2.1 rfl)
            have hsl4 : Sl w4 _ _ _ := hsl'.fr hf4 (fun y hy hm => by cases hy; exact (hf _ hm).2.2 rfl)
            have d4 := (World.cell?_of_block (hf4.block b (by simp; omega) (fun h => (hf _ h).2.2 rfl))).trans d0'
            have hg : ∀ y, y ∈ f' → y < w4.heap.size ∧ y ≠ bt ∧ b ≠ y := fun y hy => by
              refine ⟨(hg4 y hy).1, ?_⟩
              rcases (hg4 y hy).2 with h | h
              · exact (hf y h).2
              · omega
            clear hb' hsl' d0' hFa hf4 hg4
            gi_wp2
            go_roundw
            case rel => exact ⟨k + 1, M + 1, f', by omega, by go_num, hidIt (by have := hMk.out; omega), by go_num, hj4, hg, hb4, hsl4, d4, by omega, by omega⟩
            case measure => simp [intOf]; omega
          · gi_wp2
            refine bodyPost_ret (results_none rfl _ _ _) rfl ?_
            exact ⟨⟨_, rfl⟩, .inr hjx⟩
        · have hke : k = nr := by omega
          subst hke
          clear hY hst henc
          gi_wp2
          go_roundw
          case rel => exact ⟨j + 1, f, by omega, by go_num, by rw [hcum.out, hMk.out], by rw [hcum.out, ← hMk.out]; exact hJk, fun x hx => ⟨(hf x hx).1, (hf x hx).2.1, fun p hp _ => by cases hp; exact (hf x hx).2.2⟩, hb, hsl, hsz⟩
          case measure => simp [intOf]; omega
    · have hje : j = vs.length := by omega
      subst hje
      clear hst hY Hcum Hle Hrow HY
      gi_wp2
      go_end0
      exact ⟨⟨_, rfl⟩, .inl ⟨f, hJj⟩⟩
end Go.Proofs.Ytmbbmombhkaeoaa
