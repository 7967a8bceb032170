/-
  maps.Equal, bits.Same.
-/
import Derived.Test.YtiifmakhfpllnaaM02
import Derived.Shelf.SlMaps.Clone
import Derived.Deep.RegionHeld3
import Derived.Test.YtiifmakhfpllnaaM04
import Derived.Test.YtiifmakhfpllnaaM03
import Derived.Test.YtiifmakhfpllnaaProg
import Derived.Deep.QuietTactic
import Derived.BigQuiet
namespace Go.Proofs.Ytiifmakhfpllnaa
open Go.RowKit Go.Maps
attribute [local go_sem] mapAt_alloc mapAt_setCell mapAt_drew mapAt_drewN

/-- every granule that is dirty here is so there -/
def subB (l l' : List Bool) : Prop := ∀ k, l.getD k false = true → l'.getD k false = true
theorem cnt_sub {l l' : List Bool} (hl : l.length = l'.length) (hc : cnt l = cnt l') (hs : subB l l') : l = l' := by
  have hsub : ((List.range l.length).filter fun k => l.getD k false).Sublist ((List.range l.length).filter fun k => l'.getD k false) := by
    have h1 : ((List.range l.length).filter fun k => l.getD k false) = (((List.range l.length).filter fun k => l'.getD k false).filter fun k => l.getD k false) := by
      rw [List.filter_filter]
      refine List.filter_congr fun k _ => ?_
      cases h : l.getD k false with
      | false => rfl
      | true => rw [hs k h]; rfl
    rw [h1]
    exact List.filter_sublist
  have heq := hsub.eq_of_length (by unfold cnt at hc; rw [hl] at hc ⊢; exact hc)
  refine extB hl fun i hi => ?_
  have := congrArg (fun L => decide (i ∈ L)) heq
  simp only [List.mem_filter, List.mem_range, hi, true_and] at this
  rw [Bool.eq_iff_iff]
  simpa using this
def sameB (S g : Nat) (l : List Bool) (S' g' : Nat) (l' : List Bool) : Bool := decide (S = S') && decide (g = g') && decide (l = l')
set_option maxRecDepth 100000 in
set_option maxHeartbeats 1600000 in
theorem Equal_calls (mb mb' : Nat) (l l' : List Bool) (w : World) {es es' : Array MapEntry} {clock clock' : Nat} (hm : mapAt w mb = some (es, clock)) (hi : IsM Try.prog 3 es clock (bitM l)) (hm' : mapAt w mb' = some (es', clock')) (hi' : IsM Try.prog 3 es' clock' (bitM l'))
    (hl : l.length ≤ 4096) (hl' : l'.length ≤ 4096) (hll : l.length = l'.length) :
    Calls Try.prog 53 #[.map (some mb), .map (some mb')] w fun e w' => e = .returned (.bool (decide (l = l'))) ∧ Fr [] w w' := by
  have hc := cnt_le l
  have hc' := cnt_le l'
  have hlen : ∀ W, mapAt W mb = some (es, clock) → _ := fun W hW => run_len_map (P := Try.prog) (T := 73) (ty := 3) (E := 3) Try.underlying73 W hW
  have hlen' : ∀ W, mapAt W mb' = some (es', clock') → _ := fun W hW => run_len_map (P := Try.prog) (T := 73) (ty := 3) (E := 3) Try.underlying73 W hW
  rw [cnt_size hi] at hlen
  rw [cnt_size hi'] at hlen'
  by_cases hcc : cnt l = cnt l'
  · have Heq : Hid (subB l l' → decide (l = l') = true) := hidIt (fun h => by rw [cnt_sub hll hcc h]; simp)
    have Hne : Hid (¬ subB l l' → decide (l = l') = false) := hidIt (fun h => by simp; rintro rfl; exact h (fun k h => h))
    generalize decide (l = l') = res at *
    have hMlt := mapAt_lt hm
    have hMlt' := mapAt_lt hm'
    generalize cnt l = cl at *
    generalize cnt l' = cl' at *
    subst hcc
    have hlook : ∀ (W : World) (k : Nat), mapAt W mb' = some (es', clock') → k < 1000000 → (Instr.lookup 73 (.map (some mb')) (.int .i64 (k : Int)) true).run Try.prog W = .ok (.tuple #[.int .i64 (if l'.getD k false = true then 1 else 0), .bool (l'.getD k false)]) W := fun W k hW hk => by
      rw [run_lookup_isM (z := .int .i64 0) Try.underlying73 keyInt hi' true (keyI (by omega) (by omega)) W (by kernel_rfl) hW, bitM_int]
      rw [Int.toNat_natCast]
      generalize l'.getD k false = q
      cases q <;> simp
    go_enter Try.func53, Try.ntmps53
    go_wp2_with (first
      | (at_range; refine wpList_range_isM rfl _ _ rfl Try.underlying73 hi mb rfl hm ?_; intro hrg0)
      | go_in)
    go_frame
    have hF0 : Fr [] w (w.alloc (.mapIter (some mb) clock #[] clock)) := (Fr.refl _ _).alloc _
    go_loopw [5, 6, 7, 8] (fun _ _ _ _ wr => ∃ L cnt, RngM Try.prog 3 wr mb w.heap.size (bitM l) L cnt ∧ (∀ k : Nat, L (.int .i64 (k : Int)) ∨ (l.getD k false = true → l'.getD k false = true)) ∧ Fr [] w wr) (fun _ _ _ _ wr => wr.rangeLeft mb w.heap.size)
    case atStart => exact ⟨_, _, hrg0, fun k => by
      by_cases h : l.getD k false = true
      · exact .inl (by rw [bitM_int, if_pos ⟨by omega, by rw [Int.toNat_natCast]; exact h⟩]; rfl)
      · exact .inr (fun h' => absurd h' h), hF0⟩
    case round =>
      obtain ⟨L, cnt, hrg, hL, hF⟩ := hrel
      have hleft := hidIt hrg.left
      generalize wr = wo at *
      go_wp2_with (first
        | (at_next; refine wpList_next_isM rfl _ rfl mb w.heap.size rfl hrg ?_ ?_)
        | go_in)
      · intro hL0
        have hres := hidIt (Heq.out (fun k hk => (hL k).elim (fun h => absurd h (hL0 _)) (fun h => h hk)))
        go_wp2
        go_ret
        exact ⟨ret_bool hres.out.symm, hF⟩
      · intro k v w1 cnt1 hLk hmk hrg1 hlt hf1 hsz1 hen
        obtain ⟨n, rfl, rfl, hnl⟩ := bitM_int' l k v hmk
        have hF1 : Fr [] w w1 := hF.trans1 hf1 (Nat.le_refl _)
        have hm1 := mapAt_fr hm' hF1 (by simp)
        have hln : l.getD n false = true := by
          rw [bitM_int] at hmk
          by_cases h : 0 ≤ (n : Int) ∧ l.getD (n : Int).toNat false = true
          · rw [Int.toNat_natCast] at h; exact h.2
          · rw [if_neg h] at hmk; cases hmk
        have hlk := hlook w1 n hm1 (by omega)
        have Hne' : Hid (l'.getD n false = false → res = false) := hidIt (fun h => Hne.out (fun hs => by have := hs n hln; rw [h] at this; cases this))
        have hL' : Hid (l'.getD n false = true → ∀ k : Nat, (L (.int .i64 (k : Int)) ∧ (Value.int .i64 (k : Int)) ≠ .int .i64 (n : Int)) ∨ (l.getD k false = true → l'.getD k false = true)) := hidIt (fun h k => by
          rcases hL k with h1 | h1
          · by_cases hkn : k = n
            · subst hkn; exact .inr (fun _ => h)
            · exact .inl ⟨h1, fun e => hkn (by have := (Value.int.inj e).2; omega)⟩
          · exact .inr h1)
        clear hlook hL hmk hm1 hln Heq Hne
        generalize l'.getD n false = q at *
        cases q
        · go_wp2
          go_ret
          exact ⟨ret_bool (Hne'.out (by trivial)).symm, hF1⟩
        · go_wp2
          go_roundw
          case rel => exact ⟨_, _, hrg1, hL'.out (by trivial), hF1⟩
          case measure => rw [hrg1.left, hleft.out]; omega
  · have hd : decide (l = l') = false := by simp; rintro rfl; exact hcc rfl
    rw [hd]
    clear hd
    have hl1 := hlen w hm
    have hl2 := hlen' w hm'
    clear hlen hlen'
    generalize cnt l = cl at *
    generalize cnt l' = cl' at *
    go_enter Try.func53, Try.ntmps53
    go_wp2
    go_ret
    exact ⟨rfl, Fr.refl _ _⟩
set_option maxRecDepth 100000 in
set_option maxHeartbeats 1600000 in
theorem Same_like (tb mb S g tb' mb' : Nat) (l l' : List Bool) (w : World) (h : BitW w tb mb S g l) (h' : BitW w tb' mb' S g l') :
    Calls Try.prog 23 #[.pointer (some ⟨tb, 0, none⟩), .pointer (some ⟨tb', 0, none⟩)] w fun e w' => e = .returned (.bool (decide (l = l'))) ∧ Fr [] w w' := by
  have c := h.blk.cell
  have c' := h'.blk.cell
  have hl := h.len
  have hl' := h'.len
  have hle := gran_le h.size h.grain.1
  obtain ⟨es, clock, hm, hi⟩ := h.map
  obtain ⟨es', clock', hm', hi'⟩ := h'.map
  have key := Equal_calls mb mb' l l' w.drew hm hi hm' hi' (by omega) (by omega) (by omega)
  generalize decide (l = l') = q at *
  clear hl hl'
  go_enter Try.func23, Try.ntmps23
  go_wp2_with fail
  refine wp_region_still_tail 33 follows (by as_aux_lemma => kernel_rfl) ?_
  simp only [List.take_succ_cons, List.take_zero, List.drop_succ_cons, List.drop_zero]
  change wpStill _ _ (World.drew _) _ _ _
  iterate 33 still_step
  refine wpStill_nil ?_
  change wpList _ _ _ _ _ (World.drew _)
  go_wp2_with fail
  refine key.mono ?_
  rintro e w1 ⟨rfl, hf⟩
  go_wp2
  go_ret
  exact ⟨rfl, ((Fr.refl _ _).drew).trans0 hf⟩
end Go.Proofs.Ytiifmakhfpllnaa

namespace Go.Proofs.Ytiifmakhfpllnaa
open Go.RowKit Go.Maps
attribute [local go_sem] mapAt_alloc mapAt_setCell mapAt_drew mapAt_drewN

set_option maxRecDepth 100000 in
set_option maxHeartbeats 2000000 in
theorem Clone_calls (b : Nat) (es : Array MapEntry) (clock : Nat) (w : World) (hm : mapAt w b = some (es, clock)) :
    Calls Try.prog 54 #[.map (some b)] w fun e w' => e = .returned (.map (some w.heap.size)) ∧ w' = w.alloc (.map es clock) := by
  have hb := mapAt_some.1 hm
  have hq := fun w => run_eql_map_nil_sl (P := Try.prog) w 73 _ _ (some b) Try.underlying73
  go_enter Try.func54, Try.ntmps54
  go_wp2
  rw [run_callFunc_extern Try.func86 (by kernel_rfl) (by kernel_rfl) (by kernel_rfl) (e := Extern.MapsClone.clone) (by kernel_rfl), run_maps_clone_sl w 73 hb]
  simp only [Result.andThen]
  rw [Oper.upon_value]
  go_wp2
  rw [run_typeAssert_map_sl _ 73 20 _ _ _ Try.underlying73]
  simp only [Result.andThen]
  rw [Oper.upon_value]
  go_wp2
  go_ret
  exact ⟨rfl, rfl⟩
set_option maxRecDepth 100000 in
set_option maxHeartbeats 2000000 in
theorem Copy_calls (tb mb S g : Nat) (l : List Bool) (w : World) (h : BitW w tb mb S g l) :
    Calls Try.prog 24 #[.pointer (some ⟨tb, 0, none⟩)] w fun e w' => ∃ tb' mb', e = .returned (.pointer (some ⟨tb', 0, none⟩)) ∧ w.heap.size ≤ tb' ∧ w.heap.size ≤ mb' ∧ BitW w' tb' mb' S g l ∧ Fr [] w w' := by
  have c := h.blk.cell
  obtain ⟨es, clock, hm, hi⟩ := h.map
  have hlt := h.lt
  have hS := h.size
  have hg := h.grain
  have hl := h.len
  have key := Clone_calls mb es clock w.drew hm
  have hca : ∀ o, (w.drew.alloc (.map es clock)).cell? ⟨tb, o, none⟩ = [Value.int .i64 S, .int .i64 g, .map (some mb)][o]? := fun o => by
    rw [World.cell?_of_block (Below.heap_alloc _ _ _ hlt.1)]; exact c o
  have hcb : ∀ o, ((w.alloc (.map es clock)).alloc (.cells #[.int .i64 S, .int .i64 g, .map (some w.heap.size)] 75)).drew.cell? ⟨tb, o, none⟩ = [Value.int .i64 S, .int .i64 g, .map (some mb)][o]? := fun o => by
    have e1 : ((w.alloc (.map es clock)).alloc (.cells #[.int .i64 S, .int .i64 g, .map (some w.heap.size)] 75)).drew.cell? ⟨tb, o, none⟩ = (w.alloc (.map es clock)).cell? ⟨tb, o, none⟩ := World.cell?_of_block (Below.heap_alloc _ _ _ (by simp; omega))
    rw [e1, World.cell?_of_block (Below.heap_alloc _ _ _ hlt.1)]; exact c o
  go_enter Try.func24, Try.ntmps24
  go_wp2_with fail
  go_region_held3 (fun W => W.cell? ⟨tb, 0, none⟩ = some (.int .i64 S) ∧ W.cell? ⟨tb, 1, none⟩ = some (.int .i64 g) ∧ W.cell? ⟨tb, 2, none⟩ = some (.map (some mb))) (first | exact ⟨c 0, c 1, c 2⟩ | exact ⟨hca 0, hca 1, hca 2⟩ | exact ⟨hcb 0, hcb 1, hcb 2⟩) (first | (go_at_call 54; refine key.mono ?_; rintro e w1 ⟨rfl, rfl⟩))
  all_goals go_wp2
  all_goals go_ret
  all_goals refine ⟨w.heap.size + 1, w.heap.size, rfl, by omega, Nat.le_refl _, ⟨?_, hS, hg, hl, es, clock, ?_, hi⟩, (((Fr.refl _ _).alloc _).alloc _).drew⟩
  all_goals first
    | exact (Blk.new' (by simp) [_, _, _] _).drew
    | (rw [mapAt_drew, mapAt_some, Below.heap_alloc _ _ _ (by simp)]; exact heap_alloc_new w _)
end Go.Proofs.Ytiifmakhfpllnaa

namespace Go.Proofs.Ytiifmakhfpllnaa
open Go.RowKit Go.Maps
attribute [local go_sem] mapAt_alloc mapAt_setCell mapAt_drew mapAt_drewN

theorem keyedStr : Keyed Try.prog 9 := string_keyed Try.underlying9
def cpt : Option Cel → Value
  | some c => c.ptr
  | none => .pointer none
theorem cpt_getD (o : Option Cel) : (o.map Cel.ptr).getD (.pointer none) = cpt o := by cases o <;> rfl
theorem zeroEnt (W : World) : (zeroValue 66).run Try.prog W = .ok (.pointer none) W := by kernel_rfl
theorem lookD {L : List Cel} {es : Array MapEntry} {clock mb : Nat} (hi : IsM Try.prog 9 es clock (dirM L)) {s : List UInt8} (hs : s.length ≤ maxLen) (W : World) (hm : mapAt W mb = some (es, clock)) :
    (Instr.lookup 59 (.map (some mb)) (strL s) false).run Try.prog W = .ok (cpt (findC L s)) W := by
  rw [run_lookup_isM Try.underlying59 keyedStr hi false (keyStr hs) W (zeroEnt W) hm, dirM_str, cpt_getD]
  rfl
set_option maxHeartbeats 400000 in
theorem dNew_calls (w : World) : Calls Try.prog 9 #[] w fun e w' => ∃ db mb, e = .returned (.pointer (some ⟨db, 0, none⟩)) ∧ w.heap.size ≤ db ∧ w.heap.size ≤ mb ∧ DirW w' db mb [] ∧ Fr [] w w' := by
  have hmm := @run_makeMap Try.prog
  go_enter Try.func9, Try.ntmps9
  go_wp2
  go_ret
  refine ⟨w.heap.size + 1, w.heap.size, rfl, by omega, Nat.le_refl _, ⟨?_, ⟨#[], 0, ?_, ?_⟩, by simp, List.Pairwise.nil, by simp, by simp, by simp [feet], by simp [feet]⟩, ((Fr.refl _ _).alloc _).alloc _⟩
  · exact Blk.new' (by simp) [_] _
  · rw [mapAt_alloc _ (by simp), mapAt_some]
    exact heap_alloc_new w _
  · have := IsM.empty (P := Try.prog) (K := 9)
    have he : (fun _ => none) = dirM [] := dirM_ext (by simp) (by simp [findC])
    rwa [he] at this
set_option maxHeartbeats 400000 in
theorem Names_calls (db mb : Nat) (L : List Cel) (w : World) (h : DirW w db mb L) : Calls Try.prog 14 #[.pointer (some ⟨db, 0, none⟩)] w fun e w' => ∃ v, e = .returned v ∧ SlT w' v (L.map fun c => c.x.name) ∧ Fr [] w w' ∧ ∀ k, v.ownBlock = some k → w.heap.size ≤ k := by
  have c0 := h.blk.cell 0
  obtain ⟨es, clock, hm, hi⟩ := h.map
  have hsz := DirW.size h.rising hi
  have h8 := h.few
  have hlt := mapAt_lt hm
  have hsort : (L.map fun c => c.x.name).Pairwise (· < ·) := by rw [List.pairwise_map]; exact h.rising
  have hmem : ∀ k : List UInt8, k ∈ (L.map fun c => c.x.name) ↔ (dirM L (strL k)).isSome = true := by
    intro k
    rw [← DirW.one_key]
    simp only [List.mem_map]
    constructor
    · rintro ⟨c, hc, rfl⟩; exact ⟨c, hc, rfl⟩
    · rintro ⟨c, hc, e⟩; exact ⟨c, hc, strL_inj e⟩
  go_enter Try.func14, Try.ntmps14
  go_wp2_with fail
  refine (keysS_calls mb w).mono ?_
  rintro e w1 ⟨rfl, rfl⟩
  go_wp2_with fail
  have B := Blk.new w [.map (some mb)] 59
  refine (sortedS_calls w.heap.size mb 8 _ (B.cell 0) B.lt (by rw [mapAt_alloc _ hlt]; exact hm) hi (by omega) (by decide) _ hsort hmem).mono ?_
  rintro e w2 ⟨v, rfl, hv, hf, hn⟩
  go_wp2
  go_ret
  exact ⟨v, rfl, hv, ((Fr.refl _ _).alloc _).trans0 hf, fun k hk => Nat.le_trans (by simp) (hn k hk)⟩
set_option maxHeartbeats 400000 in
theorem of_none (db mb : Nat) (L : List Cel) (s : List UInt8) (fv : Value) (w : World) (h : DirW w db mb L) (hs : s.length ≤ maxLen) (hc : findC L s = none) :
    Calls Try.prog 37 #[.pointer (some ⟨db, 0, none⟩), strL s, fv] w fun e w' => e = .returned (.int .i64 112) ∧ w' = w := by
  have c0 := h.blk.cell 0
  obtain ⟨es, clock, hm, hi⟩ := h.map
  have hl := lookD hi hs w hm
  rw [hc] at hl
  unfold cpt at hl
  go_enter Try.func37, Try.ntmps37
  go_wp2
  go_ret
  exact ⟨rfl, rfl⟩
set_option maxRecDepth 100000 in
set_option maxHeartbeats 400000 in
theorem of_Switch (db mb : Nat) (L : List Cel) (s : List UInt8) (caps : List Value) (c : Cel) (w : World) (h : DirW w db mb L) (hs : s.length ≤ maxLen) (hc : findC L s = some c) {Q : World → Prop}
    (hQ : Calls Try.prog 52 (c.ptr :: caps).toArray w fun e w' => e = .returned (.tuple #[]) ∧ Q w') :
    Calls Try.prog 37 #[.pointer (some ⟨db, 0, none⟩), strL s, .func (.func 52) #[] caps.toArray] w fun e w' => e = .returned (.int .i64 0) ∧ Q w' := by
  have c0 := h.blk.cell 0
  obtain ⟨es, clock, hm, hi⟩ := h.map
  have hl := lookD hi hs w hm
  rw [hc] at hl
  unfold cpt Cel.ptr at hl
  go_enter Try.func37, Try.ntmps37
  go_wp2_with fail
  refine hQ.mono ?_
  rintro e w1 ⟨rfl, hq⟩
  go_wp2
  go_ret
  exact ⟨rfl, hq⟩
set_option maxRecDepth 100000 in
set_option maxHeartbeats 400000 in
theorem of_Remove (db mb : Nat) (L : List Cel) (s : List UInt8) (caps : List Value) (c : Cel) (w : World) (h : DirW w db mb L) (hs : s.length ≤ maxLen) (hc : findC L s = some c) {Q : World → Prop}
    (hQ : Calls Try.prog 70 (c.ptr :: caps).toArray w fun e w' => e = .returned (.tuple #[]) ∧ Q w') :
    Calls Try.prog 37 #[.pointer (some ⟨db, 0, none⟩), strL s, .func (.func 70) #[] caps.toArray] w fun e w' => e = .returned (.int .i64 0) ∧ Q w' := by
  have c0 := h.blk.cell 0
  obtain ⟨es, clock, hm, hi⟩ := h.map
  have hl := lookD hi hs w hm
  rw [hc] at hl
  unfold cpt Cel.ptr at hl
  go_enter Try.func37, Try.ntmps37
  go_wp2_with fail
  refine hQ.mono ?_
  rintro e w1 ⟨rfl, hq⟩
  go_wp2
  go_ret
  exact ⟨rfl, hq⟩
end Go.Proofs.Ytiifmakhfpllnaa

namespace Go.Proofs.Ytiifmakhfpllnaa
open Go.RowKit Go.Maps
attribute [local go_sem] mapAt_alloc mapAt_setCell mapAt_drew mapAt_drewN

def onE (b : Bool) (x : Ent) : Ent := { x with on := b }
def clrE (x : Ent) : Ent := { x with S := (doS x.g (x.S, x.l) (1, 0, x.S)).1.1, l := (doS x.g (x.S, x.l) (1, 0, x.S)).1.2, use := true }
def dn : Option Cel → Int
  | none => 112
  | some _ => 0
def oneC (L : List Cel) (s : List UInt8) (f : Ent → Ent) : List Cel := chC L (fun t => decide (t = s)) f
def oneE (E : List Ent) (s : List UInt8) (f : Ent → Ent) : List Ent := chE E (fun t => decide (t = s)) f
theorem oneC_none {L : List Cel} {s : List UInt8} (hc : findC L s = none) (f : Ent → Ent) : oneC L s f = L := by
  unfold oneC chC
  refine (List.map_congr_left fun d hd => ?_).trans (List.map_id _)
  rw [if_neg (by simpa using findC_none.1 hc d hd)]
  rfl
set_option maxRecDepth 100000 in
set_option maxHeartbeats 800000 in
theorem Switch1_calls (db mb : Nat) (L : List Cel) (c : Cel) (kb : Nat) (b : Bool) (w : World) (h : DirW w db mb L) (hc : c ∈ L) (B : Blk w kb [.bool b] 4) :
    Calls Try.prog 52 (c.ptr :: [.pointer (some ⟨kb, 0, none⟩)]).toArray w fun e w' => e = .returned (.tuple #[]) ∧ DirW w' db mb (oneC L c.x.name (onE b)) ∧ Fr [c.eb] w w' := by
  have c0 := B.cell 0
  have hE := h.ents c hc
  have ce := hE.blk.cell
  have cf := hE.blk.frozen
  have hlt := hE.blk.lt
  have hown := h.own hc
  unfold Cel.ptr
  go_enter Try.func52, Try.ntmps52
  go_wp2
  have hF : Fr [c.eb] w (w.setCell ⟨c.eb, 1, none⟩ (.bool b)) := (Fr.refl _ _).setCell (.inl (by simp)) _
  refine bodyPost_end (v := .tuple #[]) (results_none rfl _ _ _) rfl ⟨rfl, h.one hc (fun x => rfl) (hF.mono fun k hk _ => by have := List.mem_singleton.1 hk; simp [Cel.feet, this]) ⟨?_, ?_, hE.pow⟩, hF⟩
  · exact hE.blk.setCell 1 _
  · exact hE.bits.fr hF (by simp; exact hown.1.symm) (by simp; exact hown.2.1.symm)
set_option maxRecDepth 100000 in
set_option maxHeartbeats 800000 in
theorem Switch_calls (db mb : Nat) (L : List Cel) (s : List UInt8) (b : Bool) (w : World) (h : DirW w db mb L) (hs : s.length ≤ maxLen) :
    Calls Try.prog 22 #[.pointer (some ⟨db, 0, none⟩), strL s, .bool b] w fun e w' => e = .returned (.int .i64 (dn (findC L s))) ∧ DirW w' db mb (oneC L s (onE b)) ∧ Fr (feet L) w w' := by
  have B := Blk.new w [.bool b] 4
  have hF := (Fr.refl [] w).alloc (.cells #[.bool b] 4)
  have h1 := h.fr0 hF
  go_enter Try.func22, Try.ntmps22
  go_wp2_with fail
  cases hc : findC L s with
  | none =>
    refine (of_none db mb L s _ _ h1 hs hc).mono ?_
    rintro e w1 ⟨rfl, rfl⟩
    go_wp2
    go_ret
    refine ⟨ret_int (by rw [hc]; rfl), ?_, hF.weak⟩
    rw [oneC_none hc]
    exact h1
  | some c =>
    obtain ⟨hm, rfl⟩ := findC_mem hc
    refine (of_Switch db mb L _ [_] c _ h1 hs hc (Switch1_calls db mb L c w.heap.size b _ h1 hm B)).mono ?_
    rintro e w1 ⟨rfl, hD, hf⟩
    go_wp2
    go_ret
    exact ⟨ret_int (by rw [hc]; rfl), hD, (hF.weak).trans' (hf.mono fun k hk _ => mem_feet.2 ⟨c, hm, by simp [Cel.feet]; exact .inl (List.mem_singleton.1 hk)⟩)⟩
set_option maxRecDepth 100000 in
set_option maxHeartbeats 800000 in
theorem Remove1_calls (db mb : Nat) (L : List Cel) (s : List UInt8) (v : Value) (kb nb : Nat) (w : World) (h : DirW w db mb L) (hs : s.length ≤ maxLen) (B : Blk w kb [.pointer (some ⟨db, 0, none⟩)] 23) (C : Blk w nb [strL s] 9) :
    Calls Try.prog 70 (v :: [.pointer (some ⟨kb, 0, none⟩), .pointer (some ⟨nb, 0, none⟩)]).toArray w fun e w' => e = .returned (.tuple #[]) ∧ DirW w' db mb (rmC L s) ∧ Fr [mb] w w' := by
  have cb := B.cell 0
  have cn := C.cell 0
  have cd := h.blk.cell 0
  obtain ⟨es, clock, hm, hi⟩ := h.map
  go_enter Try.func70, Try.ntmps70
  go_wp2_with fail
  refine wp_region_still_tail 5 follows (by as_aux_lemma => kernel_rfl) ?_
  simp only [List.take_succ_cons, List.take_zero, List.drop_succ_cons, List.drop_zero]
  change wpStill _ _ (World.drew _) _ _ _
  iterate 5 still_step
  refine wpStill_nil ?_
  change wpList _ _ _ _ _ (World.drew _)
  refine wpList_delete_isM rfl _ _ _ 9 rfl Try.underlying59 keyedStr hi mb rfl _ rfl (keyStr hs) (by rw [mapAt_drew]; exact hm) ?_
  intro es' hi'
  go_wp2
  have hF : Fr [mb] w (putMap w.drew mb es' clock) := ((Fr.refl [mb] w).drew).trans' (putMap_fr _ _ _ _)
  exact bodyPost_end (v := .tuple #[]) (results_none rfl _ _ _) rfl ⟨rfl, h.rm s hF (mapAt_putMap (mapAt_lt hm) _ _) hi', hF⟩
set_option maxRecDepth 100000 in
set_option maxHeartbeats 800000 in
theorem Remove_calls (db mb : Nat) (L : List Cel) (s : List UInt8) (w : World) (h : DirW w db mb L) (hs : s.length ≤ maxLen) :
    Calls Try.prog 32 #[.pointer (some ⟨db, 0, none⟩), strL s] w fun e w' => e = .returned (.int .i64 (dn (findC L s))) ∧ DirW w' db mb (rmC L s) ∧ Fr [mb] w w' := by
  have hc : ∃ t, strL s = .string t := ⟨_, rfl⟩
  obtain ⟨t, ht⟩ := hc
  have B := Blk.new w [.pointer (some ⟨db, 0, none⟩)] 23
  have hF := (Fr.refl [] w).alloc (.cells #[.pointer (some ⟨db, 0, none⟩)] 23)
  have C := Blk.new (w.alloc (.cells #[.pointer (some ⟨db, 0, none⟩)] 23)) [strL s] 9
  have hF2 := hF.alloc (.cells #[strL s] 9)
  have B2 := B.alloc (.cells #[strL s] 9)
  have cB := B2.cell 0
  have cC := C.cell 0
  simp only [World.size_alloc] at C cC
  have h1 := h.fr0 hF2
  rw [ht] at hF2 h1 C cC B2 cB
  rw [ht]
  go_enter Try.func32, Try.ntmps32
  go_wp2_with fail
  rw [← ht] at *
  cases hc : findC L s with
  | none =>
    refine (of_none db mb L s _ _ h1 hs hc).mono ?_
    rintro e w1 ⟨rfl, rfl⟩
    go_wp2
    go_ret
    refine ⟨ret_int (by rw [hc]; rfl), ?_, hF2.weak⟩
    have : rmC L s = L := List.filter_eq_self.2 fun d hd => by simpa using findC_none.1 hc d hd
    rw [this]
    exact h1
  | some c =>
    refine (of_Remove db mb L s [_, _] c _ h1 hs hc (Remove1_calls db mb L s _ _ _ _ h1 hs B2 C)).mono ?_
    rintro e w1 ⟨rfl, hD, hf⟩
    go_wp2
    go_ret
    exact ⟨ret_int (by rw [hc]; rfl), hD, (hF2.weak).trans' hf⟩
set_option maxRecDepth 100000 in
set_option maxHeartbeats 800000 in
theorem Clear1_calls (db mb : Nat) (L : List Cel) (c : Cel) (w : World) (h : DirW w db mb L) (hc : c ∈ L) :
    Calls Try.prog 67 (c.ptr :: []).toArray w fun e w' => e = .returned (.tuple #[]) ∧ DirW w' db mb (oneC L c.x.name clrE) ∧ Fr [c.eb, c.mb] w w' := by
  have hE := h.ents c hc
  have ce := hE.blk.cell
  have cf := hE.blk.frozen
  have hlt := hE.blk.lt
  have hown := h.own hc
  have hS := hE.bits.size
  have keyS := Sectors_calls c.tb c.mb c.x.S c.x.g c.x.l w.drew (hE.bits.fr0 (Fr.refl [] w).drew)
  have keyC := Clear_calls c.tb c.mb c.x.S c.x.g c.x.l 0 c.x.S w.drew (hE.bits.fr0 (Fr.refl [] w).drew) (by omega)
  unfold Cel.ptr
  go_enter Try.func67, Try.ntmps67
  go_wp2_with fail
  go_region_held3 (fun W => W.cell? ⟨c.eb, 3, none⟩ = some (.pointer (some ⟨c.tb, 0, none⟩))) (first | exact ce 3 | exact (hE.blk.drew.fr hf (by simp; exact hown.2.1)).cell 3) (first | (go_at_call 16; refine keyS.mono ?_; rintro e w1 ⟨rfl, rfl⟩) | (go_at_call 68; refine keyC.mono ?_; rintro e w1 ⟨rfl, hB, hf⟩))
  all_goals
    have B1 := hE.blk.drew.fr hf (by simp; exact hown.2.1)
    have d1 := B1.cell
    have d2 := B1.frozen
    have d3 := B1.lt
    go_wp2
    have hF : Fr [c.eb, c.mb] w (w1.setCell ⟨c.eb, 2, none⟩ (.bool true)) := (((Fr.refl [] w).drew.weak).trans' (hf.mono (by simp))).setCell (.inl (by simp)) _
    refine bodyPost_end (v := .tuple #[]) (results_none rfl _ _ _) rfl ⟨rfl, h.one hc (fun x => rfl) (hF.mono fun k hk _ => by simp at hk; simp [Cel.feet]; omega) ⟨?_, ?_, hE.pow⟩, hF⟩
    · exact B1.setCell 2 _
    · exact hB.fr ((Fr.refl [c.eb] w1).setCell (.inl (by simp)) _) (by simp; exact hown.1.symm) (by simp; exact hown.2.1.symm)
end Go.Proofs.Ytiifmakhfpllnaa

namespace Go.Proofs.Ytiifmakhfpllnaa
open Go.RowKit Go.Maps
attribute [local go_sem] mapAt_alloc mapAt_setCell mapAt_drew mapAt_drewN
set_option maxRecDepth 100000 in
set_option maxHeartbeats 400000 in
theorem of_Clear (db mb : Nat) (L : List Cel) (s : List UInt8) (caps : List Value) (c : Cel) (w : World) (h : DirW w db mb L) (hs : s.length ≤ maxLen) (hc : findC L s = some c) {Q : World → Prop}
    (hQ : Calls Try.prog 67 (c.ptr :: caps).toArray w fun e w' => e = .returned (.tuple #[]) ∧ Q w') :
    Calls Try.prog 37 #[.pointer (some ⟨db, 0, none⟩), strL s, .func (.func 67) #[] caps.toArray] w fun e w' => e = .returned (.int .i64 0) ∧ Q w' := by
  have c0 := h.blk.cell 0
  obtain ⟨es, clock, hm, hi⟩ := h.map
  have hl := lookD hi hs w hm
  rw [hc] at hl
  unfold cpt Cel.ptr at hl
  go_enter Try.func37, Try.ntmps37
  go_wp2_with fail
  refine hQ.mono ?_
  rintro e w1 ⟨rfl, hq⟩
  go_wp2
  go_ret
  exact ⟨rfl, hq⟩
set_option maxRecDepth 100000 in
set_option maxHeartbeats 400000 in
theorem of_Get (db mb : Nat) (L : List Cel) (s : List UInt8) (caps : List Value) (c : Cel) (w : World) (h : DirW w db mb L) (hs : s.length ≤ maxLen) (hc : findC L s = some c) {Q : World → Prop}
    (hQ : Calls Try.prog 38 (c.ptr :: caps).toArray w fun e w' => e = .returned (.tuple #[]) ∧ Q w') :
    Calls Try.prog 37 #[.pointer (some ⟨db, 0, none⟩), strL s, .func (.func 38) #[] caps.toArray] w fun e w' => e = .returned (.int .i64 0) ∧ Q w' := by
  have c0 := h.blk.cell 0
  obtain ⟨es, clock, hm, hi⟩ := h.map
  have hl := lookD hi hs w hm
  rw [hc] at hl
  unfold cpt Cel.ptr at hl
  go_enter Try.func37, Try.ntmps37
  go_wp2_with fail
  refine hQ.mono ?_
  rintro e w1 ⟨rfl, hq⟩
  go_wp2
  go_ret
  exact ⟨rfl, hq⟩
set_option maxRecDepth 100000 in
set_option maxHeartbeats 400000 in
theorem dClear_calls (db mb : Nat) (L : List Cel) (s : List UInt8) (w : World) (h : DirW w db mb L) (hs : s.length ≤ maxLen) :
    Calls Try.prog 28 #[.pointer (some ⟨db, 0, none⟩), strL s] w fun e w' => e = .returned (.int .i64 (dn (findC L s))) ∧ DirW w' db mb (oneC L s clrE) ∧ Fr (feet L) w w' := by
  go_enter Try.func28, Try.ntmps28
  go_wp2_with fail
  cases hc : findC L s with
  | none =>
    refine (of_none db mb L s _ _ h hs hc).mono ?_
    rintro e w1 ⟨rfl, rfl⟩
    go_wp2
    go_ret
    exact ⟨ret_int (by rw [hc]; rfl), by rw [oneC_none hc]; exact h, Fr.refl _ _⟩
  | some c =>
    obtain ⟨hm, rfl⟩ := findC_mem hc
    refine (of_Clear db mb L _ [] c _ h hs hc (Clear1_calls db mb L c w h hm)).mono ?_
    rintro e w1 ⟨rfl, hD, hf⟩
    go_wp2
    go_ret
    exact ⟨ret_int (by rw [hc]; rfl), hD, hf.mono fun k hk _ => mem_feet.2 ⟨c, hm, by simp at hk; simp [Cel.feet]; omega⟩⟩
/-- an entry as it is told -/
def entV (x : Ent) (tb : Nat) : Value := .agg #[strL x.name, .bool x.on, .bool x.use, .pointer (some ⟨tb, 0, none⟩)]
def noEnt : Value := .agg #[strL [], .bool false, .bool false, .pointer none]
set_option maxRecDepth 100000 in
set_option maxHeartbeats 400000 in
theorem Get1_calls (db mb : Nat) (L : List Cel) (c : Cel) (ob : Nat) (v0 v1 v2 v3 : Value) (w : World) (h : DirW w db mb L) (hc : c ∈ L) (B : Blk w ob [v0, v1, v2, v3] 36) (hob : c.eb ≠ ob ∧ c.tb ≠ ob ∧ c.mb ≠ ob) :
    Calls Try.prog 38 (c.ptr :: [.pointer (some ⟨ob, 0, none⟩)]).toArray w fun e w' => e = .returned (.tuple #[]) ∧ ∃ tb' mb', w.heap.size ≤ tb' ∧ w.heap.size ≤ mb' ∧
      Blk w' ob [strL c.x.name, .bool c.x.on, .bool c.x.use, .pointer (some ⟨tb', 0, none⟩)] 36 ∧ BitW w' tb' mb' c.x.S c.x.g c.x.l ∧ Fr [ob] w w' := by
  have hE := h.ents c hc
  have ce := hE.blk.cell
  have cb := B.cell
  have fb := B.frozen
  have lb := B.lt
  obtain ⟨t, ht⟩ : ∃ t, strL c.x.name = .string t := ⟨_, rfl⟩
  rw [ht] at ce
  rw [ht]
  unfold Cel.ptr
  go_enter Try.func38, Try.ntmps38
  go_wp2_with fail
  have hF : Fr [ob] w ((((w.setCell ⟨ob, 0, none⟩ (.string t)).setCell ⟨ob, 1, none⟩ (.bool c.x.on)).setCell ⟨ob, 2, none⟩ (.bool c.x.use)).setCell ⟨ob, 3, none⟩ (.pointer (some ⟨c.tb, 0, none⟩))) := (((Fr.set3 w ob _ _ _)).setCell (.inl (by simp)) _)
  have B2 := (((B.setCell 0 (.string t)).setCell 1 (.bool c.x.on)).setCell 2 (.bool c.x.use)).setCell 3 (.pointer (some ⟨c.tb, 0, none⟩))
  refine (Copy_calls c.tb c.mb c.x.S c.x.g c.x.l _ (hE.bits.fr hF (by simp; exact hob.2.1) (by simp; exact hob.2.2))).mono ?_
  rintro e w1 ⟨tb', mb', rfl, n1, n2, hB, hf⟩
  have B3 := B2.fr0 hf
  have d1 := B3.cell
  have d2 := B3.frozen
  have d3 := B3.lt
  simp only [World.size_setCell] at n1 n2
  go_wp2
  refine bodyPost_end (v := .tuple #[]) (results_none rfl _ _ _) rfl ⟨rfl, tb', mb', n1, n2, B3.setCell 3 _, hB.fr ((Fr.refl [ob] w1).setCell (.inl (by simp)) _) (by simp; omega) (by simp; omega), (hF.trans0 hf).setCell (.inl (by simp)) _⟩
set_option maxRecDepth 100000 in
set_option maxHeartbeats 400000 in
theorem Get_none (db mb : Nat) (L : List Cel) (s : List UInt8) (w : World) (h : DirW w db mb L) (hs : s.length ≤ maxLen) (hc : findC L s = none) :
    Calls Try.prog 15 #[.pointer (some ⟨db, 0, none⟩), strL s] w fun e w' => e = .returned (.tuple #[noEnt, .int .i64 112]) ∧ Fr [] w w' := by
  go_enter Try.func15, Try.ntmps15
  go_wp2_with fail
  have B0 := Blk.new w [.string ⟨#[]⟩, .bool false, .bool false, .pointer none] 36
  have hF1 := (Fr.refl [] w).alloc (.cells #[.string ⟨#[]⟩, .bool false, .bool false, .pointer none] 36)
  have B1 := Blk.new (w.alloc (.cells #[.string ⟨#[]⟩, .bool false, .bool false, .pointer none] 36)) [.string ⟨#[]⟩, .bool false, .bool false, .pointer none] 36
  simp only [World.size_alloc] at B1
  have hF2 := hF1.alloc (.cells #[.string ⟨#[]⟩, .bool false, .bool false, .pointer none] 36)
  have B0 := B0.alloc (.cells #[.string ⟨#[]⟩, .bool false, .bool false, .pointer none] 36)
  have h1 := h.fr0 hF2
  refine (of_none db mb L s _ _ h1 hs hc).mono ?_
  rintro e w1 ⟨rfl, rfl⟩
  have c0 := B0.cell
  have f0 := B0.frozen
  have l0 := B0.lt
  have c1 := B1.cell
  have l1 := B1.lt
  go_wp2
  exact bodyPost_ret (v := .tuple #[noEnt, .int .i64 112]) (by simp [results, Try.results15, go_sem, noEnt, strL, c0]) rfl ⟨rfl, hF2⟩
set_option maxRecDepth 100000 in
set_option maxHeartbeats 400000 in
theorem Get_some (db mb : Nat) (L : List Cel) (s : List UInt8) (c : Cel) (w : World) (h : DirW w db mb L) (hs : s.length ≤ maxLen) (hc : findC L s = some c) :
    Calls Try.prog 15 #[.pointer (some ⟨db, 0, none⟩), strL s] w fun e w' => ∃ tb' mb', e = .returned (.tuple #[entV c.x tb', .int .i64 0]) ∧ w.heap.size ≤ tb' ∧ w.heap.size ≤ mb' ∧ BitW w' tb' mb' c.x.S c.x.g c.x.l ∧ Fr [] w w' := by
  go_enter Try.func15, Try.ntmps15
  go_wp2_with fail
  have B0 := Blk.new w [.string ⟨#[]⟩, .bool false, .bool false, .pointer none] 36
  have hF1 := (Fr.refl [] w).alloc (.cells #[.string ⟨#[]⟩, .bool false, .bool false, .pointer none] 36)
  have B1 := Blk.new (w.alloc (.cells #[.string ⟨#[]⟩, .bool false, .bool false, .pointer none] 36)) [.string ⟨#[]⟩, .bool false, .bool false, .pointer none] 36
  simp only [World.size_alloc] at B1
  have hF2 := hF1.alloc (.cells #[.string ⟨#[]⟩, .bool false, .bool false, .pointer none] 36)
  have B0 := B0.alloc (.cells #[.string ⟨#[]⟩, .bool false, .bool false, .pointer none] 36)
  have h1 := h.fr0 hF2
  obtain ⟨hm, rfl⟩ := findC_mem hc
  have hlt := h.lt
  have hft : ∀ k ∈ c.feet, k < w.heap.size := fun k hk => hlt k (by simp only [homes, List.mem_cons]; exact .inr (.inr (mem_feet.2 ⟨c, hm, hk⟩)))
  have q1 := hft c.eb (by simp [Cel.feet])
  have q2 := hft c.tb (by simp [Cel.feet])
  have q3 := hft c.mb (by simp [Cel.feet])
  refine (of_Get db mb L _ [_] c _ h1 hs hc (Get1_calls db mb L c (w.heap.size + 1) _ _ _ _ _ h1 hm B1 (by omega))).mono ?_
  rintro e w1 ⟨rfl, tb', mb', n1, n2, B3, hB, hf⟩
  obtain ⟨t, ht⟩ : ∃ t, strL c.x.name = .string t := ⟨_, rfl⟩
  rw [ht] at B3
  have B4 := B0.fr hf (by simp)
  have c0 := B4.cell
  have f0 := B4.frozen
  have l0 := B4.lt
  have c1 := B3.cell
  have l1 := B3.lt
  simp only [World.size_alloc] at n1 n2
  have Ht := hidIt ht
  clear ht
  go_wp2
  exact bodyPost_ret (v := .tuple #[.agg #[.string t, .bool c.x.on, .bool c.x.use, .pointer (some ⟨tb', 0, none⟩)], .int .i64 0]) (by simp [results, Try.results15, go_sem, ((((B4.setCell 0 (.string t)).setCell 1 (.bool c.x.on)).setCell 2 (.bool c.x.use)).setCell 3 (.pointer (some ⟨tb', 0, none⟩))).cell]) rfl
    ⟨tb', mb', by rw [entV, Ht.out], by omega, by omega, hB.fr ((Fr.set3 w1 w.heap.size _ _ _).setCell (.inl (by simp)) _) (by simp; omega) (by simp; omega), (((hF2.trans hf (by simp)).trans ((Fr.set3 w1 w.heap.size _ _ _).setCell (.inl (by simp)) _) (by simp)))⟩
end Go.Proofs.Ytiifmakhfpllnaa

namespace Go.Proofs.Ytiifmakhfpllnaa
open Go.RowKit Go.Maps

theorem infoExt : (Try.prog.info? 117).map (fun i => (i.zero, i.size, i.bytes)) = some (some (.agg #[.int .i64 0, .int .i64 0, .int .i64 0]), 3, 24) := by kernel_rfl
theorem ext_one {o : Op3} : ∀ u ∈ op3C o, u.oneCell' = true := by
  intro u hu
  simp at hu
  rcases hu with rfl | rfl | rfl <;> rfl
/-- the last extent; where a row ends -/
def lastE (E : List Op3) : Op3 := E.getD (E.length - 1) z3
def endE (E : List Op3) : Int := if E.length = 0 then 0 else (lastE E).1 + (lastE E).2.1
def addE (E : List Op3) (k : Int) : List Op3 := if E.length ≠ 0 ∧ (lastE E).2.2 = k then E.set (E.length - 1) ((lastE E).1, (lastE E).2.1 + 1, (lastE E).2.2) else E ++ [(endE E, 1, k)]
def ofE (ks : List Int) : List Op3 := ks.foldl addE []
/-- numbers of no size -/
def smallE (E : List Op3) : Prop := ∀ e ∈ E, (0 ≤ e.1 ∧ e.1 ≤ 1000000) ∧ (0 ≤ e.2.1 ∧ e.2.1 ≤ 1000000)
theorem smallE.last {E : List Op3} (h : smallE E) (h0 : E.length ≠ 0) : (0 ≤ (lastE E).1 ∧ (lastE E).1 ≤ 1000000) ∧ (0 ≤ (lastE E).2.1 ∧ (lastE E).2.1 ≤ 1000000) :=
  h _ (List.mem_of_getElem? (getD_some z3 (by omega : E.length - 1 < E.length)))
set_option maxRecDepth 100000 in
set_option maxHeartbeats 800000 in
theorem send_calls (v : Value) (E : List Op3) (w : World) (hv : SlP w v E) (hs : smallE E) : Calls Try.prog 109 #[v] w fun e w' => e = .returned (.int .i64 (endE E)) ∧ Fr [] w w' := by
  obtain ⟨a, cap, rfl, hlc, hcm, _⟩ := hv.open
  unfold maxLen at hcm
  by_cases h0 : E.length = 0
  · have he : Hid (endE E = 0) := hidIt (by unfold endE; rw [if_pos h0])
    go_enter Try.func109, Try.ntmps109
    go_wp2
    go_ret
    exact ⟨ret_int he.out.symm, Fr.refl _ _⟩
  · have he : Hid (endE E = (lastE E).1 + (lastE E).2.1) := hidIt (by unfold endE; rw [if_neg h0])
    obtain ⟨b, off, rfl, hb, c0, c1, c2⟩ := SlP.at hv (i := E.length - 1) (by omega)
    have hl := hs.last h0
    unfold lastE at he hl
    generalize E.getD (E.length - 1) z3 = x at *
    obtain ⟨p, q, r⟩ := x
    simp only at c0 c1 c2 he hl
    have e1 : (E.length : Int) - 1 = ((E.length - 1 : Nat) : Int) := by omega
    have hlt : E.length - 1 < E.length := by omega
    have hw1 : IntKind.i64.wrap (((E.length - 1 : Nat) : Int)) = ((E.length - 1 : Nat) : Int) := IntWalk.i64_in _ (by omega)
    go_enter Try.func109, Try.ntmps109
    go_wp2_with fail
    go_quiet (fail)
    go_wp2
    go_ret
    exact ⟨ret_int he.out.symm, (Fr.refl _ _).drewN _⟩
theorem flatE_length (l : List Op3) : (l.flatMap op3C).length = l.length * 3 := by
  induction l with
  | nil => rfl
  | cons s g ih => simp [ih]; omega
theorem flatE_set1 (l : List Op3) (i : Nat) (hi : i < l.length) (a b c y : Int) (h : l[i]? = some (a, b, c)) : (l.set i (a, y, c)).flatMap op3C = (l.flatMap op3C).set (i * 3 + 1) (.int .i64 y) := by
  apply List.ext_getElem?
  intro k
  obtain ⟨q, j, hj, rfl⟩ : ∃ q j, j < 3 ∧ k = q * 3 + j := ⟨k / 3, k % 3, Nat.mod_lt _ (by omega), by omega⟩
  rw [flat_at op3C 3 (fun _ => rfl) _ q j hj, List.getElem?_set, List.getElem?_set, flatE_length, flat_at op3C 3 (fun _ => rfl) _ q j hj]
  by_cases hq : i = q
  · subst hq
    rw [if_pos rfl, if_pos hi, h]
    match j, hj with
    | 0, _ => rw [if_neg (by omega)]; rfl
    | 1, _ => rw [if_pos rfl, if_pos (by omega)]; rfl
    | 2, _ => rw [if_neg (by omega)]; rfl
  · rw [if_neg hq, if_neg (by omega)]
set_option maxRecDepth 100000 in
set_option maxHeartbeats 1600000 in
theorem add_calls (base : Nat) (v : Value) (E : List Op3) (k : Int) (w : World) (hown : w.ownsRow base 117 3 v E.length (E.flatMap op3C)) (hs : smallE E) (hn : E.length ≤ 1000000) (hb : base ≤ w.heap.size) :
    Calls Try.prog 94 #[v, .int .i64 1, .int .i64 k] w fun e w' => ∃ v', e = .returned v' ∧ w'.ownsRow base 117 3 v' (addE E k).length ((addE E k).flatMap op3C) ∧ Fr v.ownBlock.toList w w' := by
  by_cases h0 : E.length = 0
  · have hE : E = [] := List.eq_nil_of_length_eq_zero h0
    subst hE
    clear h0 hn
    have hsl : SlP w v [] := SlF.of_owns hown
    obtain ⟨a, cap, rfl, _, _, _⟩ := Sl.of_owns hown
    have ha : Hid (addE [] k = [(0, 1, k)]) := hidIt (by unfold addE endE; simp)
    have key := send_calls _ [] w hsl hs
    have he : endE [] = 0 := rfl
    rw [he] at key
    simp only [List.length_nil, List.flatMap_nil] at hown key ⊢
    go_enter Try.func94, Try.ntmps94
    go_wp2_with fail
    refine key.mono ?_
    rintro e w1 ⟨rfl, hf⟩
    have hown1 := owns_fr hown hf (by simp)
    have hsz := hf.size
    have hob := own_base hown
    clear key hsl hs
    go_wp2_with (at_builtin; refine Hid.out ?_)
    refine hidIt ?_
    refine wpList_append1 86 117 (.agg #[.int .i64 0, .int .i64 0, .int .i64 0]) 3 24 Try.underlying86 infoExt rfl (by decide) (by decide) rfl _ _ rfl base (.slice a 0 cap) 0 [] rfl (hown1.alloc _) (op3C (0, 1, k)) rfl ext_one w1.heap.size rfl (Blk.new _ _ _) (by omega) (by simp; omega) ?_
    intro v' w2 hown2 hgrow hloc
    go_wp2
    go_ret
    refine ⟨v', rfl, ?_, ((hf.weak).alloc _).grown hgrow (fun x hx => .inl (by rw [hx]; simp))⟩
    rw [ha.out]
    simpa using hown2
  · obtain ⟨g, cap, rfl, hgb, _⟩ := owns_succ hown (by omega)
    have hlt : E.length - 1 < E.length := by omega
    have hsl : SlP w (.slice (some ⟨g, 0, none⟩) E.length cap) E := SlF.of_owns hown
    have hx := getD_some z3 hlt
    have hat : ∀ j u, (op3C (E.getD (E.length - 1) z3))[j]? = some u → j < 3 → (E.flatMap op3C)[(E.length - 1) * 3 + j]? = some u := fun j u hu hj => by
      rw [flat_at op3C 3 (fun _ => rfl) E _ j hj, hx]; exact hu
    have hlast := hs.last h0
    have d1 := owns_at hown (hat 1 _ rfl (by omega))
    have d2 := owns_at hown (hat 2 _ rfl (by omega))
    have hset := fun y => hidIt (flatE_set1 E (E.length - 1) hlt (E.getD (E.length - 1) z3).1 (E.getD (E.length - 1) z3).2.1 (E.getD (E.length - 1) z3).2.2 y hx)
    have ha : Hid (addE E k = if E.length ≠ 0 ∧ (lastE E).2.2 = k then E.set (E.length - 1) ((lastE E).1, (lastE E).2.1 + 1, (lastE E).2.2) else E ++ [(endE E, 1, k)]) := hidIt (by unfold addE; rfl)
    have key := send_calls _ E w hsl hs
    unfold lastE at ha hlast
    clear hat hx hsl hs
    generalize E.getD (E.length - 1) z3 = x at *
    obtain ⟨p, q, r⟩ := x
    simp only at d1 d2 hset ha hlast
    generalize endE E = en at *
    have e1 : (E.length : Int) - 1 = ((E.length - 1 : Nat) : Int) := by omega
    by_cases hr : r = k
    · subst hr
      rw [if_pos ⟨h0, rfl⟩] at ha
      obtain ⟨d1, f1⟩ := d1
      obtain ⟨d2, f2⟩ := d2
      clear key
      go_enter Try.func94, Try.ntmps94
      go_wp2
      go_ret
      refine ⟨_, rfl, ?_, (Fr.refl _ w).setCell (.inl (by simp [Value.ownBlock])) _⟩
      rw [ha.out, List.length_set, (hset (q + 1)).out]
      exact owns_put hown _ _
    · rw [if_neg (fun h => hr h.2)] at ha
      obtain ⟨d1, f1⟩ := d1
      obtain ⟨d2, f2⟩ := d2
      clear hset
      go_enter Try.func94, Try.ntmps94
      go_wp2_with fail
      refine key.mono ?_
      rintro e w1 ⟨rfl, hf⟩
      have hown1 := owns_fr hown hf (by simp)
      have hsz := hf.size
      clear key
      go_wp2_with (at_builtin; refine Hid.out ?_)
      refine hidIt ?_
      refine wpList_append1 86 117 (.agg #[.int .i64 0, .int .i64 0, .int .i64 0]) 3 24 Try.underlying86 infoExt rfl (by decide) (by decide) rfl _ _ rfl base (.slice (some ⟨g, 0, none⟩) E.length cap) E.length (E.flatMap op3C) rfl (hown1.alloc _) (op3C (en, 1, k)) rfl ext_one w1.heap.size rfl (Blk.new _ _ _) (by omega) (by simp; omega) ?_
      intro v' w2 hown2 hgrow hloc
      go_wp2
      go_ret
      refine ⟨v', rfl, ?_, ((hf.weak).alloc _).grown hgrow (fun x hx => .inl (by rw [hx]; simp))⟩
      rw [ha.out]
      simp only [List.length_append, List.length_singleton, List.flatMap_append, List.flatMap_cons, List.flatMap_nil, List.append_nil]
      exact hown2
/-! ### what a row is -/
theorem addE_len (E : List Op3) (k : Int) : (addE E k).length ≤ E.length + 1 := by
  unfold addE
  split
  · simp
  · simp
theorem ofE_snoc (ks : List Int) (k : Int) : ofE (ks ++ [k]) = addE (ofE ks) k := by unfold ofE; rw [List.foldl_append]; rfl
/-- E reads as the kinds d: they lie one behind the other, from 'at' on -/
def rowE : Int → List Op3 → List Int → Prop
  | a, [], d => d = [] ∧ 0 ≤ a
  | a, (f, n, k) :: E, d => f = a ∧ 0 ≤ a ∧ ∃ m : Nat, n = (m : Int) ∧ 1 ≤ m ∧ ∃ d', d = List.replicate m k ++ d' ∧ rowE (a + n) E d'
end Go.Proofs.Ytiifmakhfpllnaa
