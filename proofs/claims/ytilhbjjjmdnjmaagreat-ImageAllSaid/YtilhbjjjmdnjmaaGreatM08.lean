/-
  Package table: each function once: what it answers of the list of slots that the table has.
-/
import Derived.Test.YtilhbjjjmdnjmaaGreatM04
import Derived.Test.YtilhbjjjmdnjmaaGreatM02
namespace Go.Proofs.YtilhbjjjmdnjmaaGreat
open Go.RowKit Go.Maps

/-- what the map of a table holds: the groups that are kept -/
def tabM (l : List Slt) : Value → Option Value
  | .int .i64 k => if 0 ≤ k ∧ k < 16 ∧ keptG l k.toNat = true then some (.agg (gC (grp l k.toNat))) else none
  | _ => none
theorem tabM_int (l : List Slt) (k : Int) : tabM l (.int .i64 k) = if 0 ≤ k ∧ k < 16 ∧ keptG l k.toNat = true then some (.agg (gC (grp l k.toNat))) else none := rfl
theorem tabM_getD {l : List Slt} (hr : ∀ s ∈ l, rightS s = true) {k : Int} (h0 : 0 ≤ k) (h1 : k < 16) : (tabM l (.int .i64 k)).getD (.agg (gC (zG))) = .agg (gC (grp l k.toNat)) := by
  rw [tabM_int]
  cases hk : keptG l k.toNat with
  | true => simp [h0, h1]
  | false => simp [kept_false hr hk]
/-- In block tb lies a table, its map in block mb, that has the slots l. -/
structure TabW (w : World) (tb mb : Nat) (l : List Slt) : Prop where
  blk : Blk w tb [.int .i64 l.length, .map (some mb)] 124
  len : l.length ≤ 256
  right : ∀ s ∈ l, rightS s = true
  map : ∃ es clock, mapAt w mb = some (es, clock) ∧ IsM Tryz.prog 3 es clock (tabM l)
theorem TabW.lt {w : World} {tb mb : Nat} {l : List Slt} (h : TabW w tb mb l) : tb < w.heap.size ∧ mb < w.heap.size := by
  obtain ⟨es, c, hm, _⟩ := h.map
  exact ⟨h.blk.lt, mapAt_lt hm⟩
theorem TabW.ne {w : World} {tb mb : Nat} {l : List Slt} (h : TabW w tb mb l) : tb ≠ mb := by
  rintro rfl
  obtain ⟨es, c, hm, _⟩ := h.map
  have := (mapAt_some.1 hm).symm.trans h.blk
  cases this
theorem TabW.fr {L : List Nat} {w w' : World} {tb mb : Nat} {l : List Slt} (h : TabW w tb mb l) (hf : Fr L w w') (h1 : tb ∉ L) (h2 : mb ∉ L) : TabW w' tb mb l := by
  obtain ⟨es, c, hm, hi⟩ := h.map
  exact ⟨h.blk.fr hf h1, h.len, h.right, es, c, mapAt_fr hm hf h2, hi⟩
theorem TabW.fr0 {w w' : World} {tb mb : Nat} {l : List Slt} (h : TabW w tb mb l) (hf : Fr [] w w') : TabW w' tb mb l := h.fr hf (by simp) (by simp)

theorem keyInt : Keyed Tryz.prog 3 := int_keyed Tryz.underlying3
theorem keyI {k : Int} (h0 : 0 ≤ k) (h1 : k < 16) : keyOf Tryz.prog 3 (.int .i64 k) = some (.int .i64 k) := keyOf_int_mk Tryz.underlying3 (by simp [Lit.wf, IntKind.min, IntKind.max, IntKind.signed, IntKind.bits]; omega)

attribute [local go_sem] mapAt_alloc mapAt_setCell mapAt_drew mapAt_drewN
attribute [local go_sem high] equalSlot0 equalGroup guardGroup buildGroup zeroGroup gC_size grp_length zG_length

/-! ### small ones -/
def okSize (n : Int) : Bool := decide (0 ≤ n) && decide (n ≤ 256)
set_option maxHeartbeats 400000 in
theorem right_calls (s : Int) (w : World) : Calls Tryz.prog 67 #[.int .i64 s] w fun e w' => e = .returned (.bool (okSize s)) ∧ w = w' := by
  have H1 : 0 ≤ s → Hid (okSize s = decide (s ≤ 256)) := fun h => by simp [Hid, okSize, h]
  have H2 : s < 0 → Hid (okSize s = false) := fun h => by simp [Hid, okSize]; omega
  go_enter Tryz.func67, Tryz.ntmps67
  go_wp2
  all_goals go_ret
  · exact ⟨ret_bool (H1 ‹_›).out.symm, rfl⟩
  · exact ⟨ret_bool (H2 ‹_›).out.symm, rfl⟩
theorem right1 {k h : Int} {o : Bool} (h1 : (k == 1) = true) (h2 : 0 ≤ h) : decide (h < 512) = rightS (k, h, o) := by
  have : k = 1 := by simpa using h1
  subst this
  simp [rightS, h2]
theorem right2 {k h : Int} {o : Bool} (h1 : (k == 1) = true) (h2 : h < 0) : false = rightS (k, h, o) := by
  have : k = 1 := by simpa using h1
  subst this
  simp [rightS]; omega
theorem right3 {k h : Int} {o : Bool} (h2 : sEq (k, h, o) (0, 0, false) = true) : true = rightS (k, h, o) := by
  have := (sEq_iff _ _).1 h2
  cases this
  rfl
theorem right4 {k h : Int} {o : Bool} (h1 : (k == 1) = false) (h2 : ¬ sEq (k, h, o) (0, 0, false) = true) : sEq (k, h, o) (2, 0, false) = rightS (k, h, o) := by
  have hk : ¬ k = 1 := by simpa using h1
  simp only [rightS, if_neg hk]
  rw [Bool.eq_iff_iff, sEq_iff]
  simp only [sEq_iff] at h2
  cases o <;> simp at h2 ⊢
  omega
set_option maxHeartbeats 400000 in
theorem Right_calls (k h : Int) (o : Bool) (w : World) : Calls Tryz.prog 100 #[.agg #[.int .i64 k, .int .i64 h, .bool o]] w fun e w' => e = .returned (.bool (rightS (k, h, o))) ∧ Fr [] w w' := by
  go_enter Tryz.func100, Tryz.ntmps100
  go_wp2
  all_goals go_ret
  · exact ⟨ret_bool (right1 ‹_› ‹_›), (Fr.refl _ _).alloc _⟩
  · exact ⟨ret_bool (right2 ‹_› ‹_›), (Fr.refl _ _).alloc _⟩
  · exact ⟨ret_bool (right3 ‹_›), (Fr.refl _ _).alloc _⟩
  · exact ⟨ret_bool (right4 ‹_› ‹_›), (Fr.refl _ _).alloc _⟩
set_option maxHeartbeats 400000 in
theorem Len_calls (tb mb : Nat) (l : List Slt) (w : World) (hT : TabW w tb mb l) : Calls Tryz.prog 39 #[.pointer (some ⟨tb, 0, none⟩)] w fun e w' => e = .returned (.int .i64 l.length) ∧ w = w' := by
  have h0 : w.cell? ⟨tb, 0, none⟩ = some (.int .i64 l.length) := hT.blk.cell 0
  go_enter Tryz.func39, Tryz.ntmps39
  go_wp2
  go_ret
  exact ⟨rfl, rfl⟩
theorem groups_size {l : List Slt} {es : Array MapEntry} {clock : Nat} (h : IsM Tryz.prog 3 es clock (tabM l)) : es.size = groups l := by
  have := h.size (ks := ((List.range 16).filter (keptG l)).map fun (n : Nat) => Value.int .i64 (n : Int)) (by
    rw [List.pairwise_map]
    refine List.Pairwise.filter _ ?_
    refine List.Pairwise.imp ?_ List.nodup_range
    intro a b hab e
    injection e with _ e
    exact hab (by omega)) (by
    intro x
    simp only [List.mem_map, List.mem_filter, List.mem_range]
    constructor
    · rintro ⟨a, ⟨ha, hk⟩, rfl⟩
      rw [tabM_int, if_pos ⟨by omega, by omega, by simpa using hk⟩]; rfl
    · intro hx
      cases x with
      | int q k =>
        cases q with
        | i64 =>
          rw [tabM_int] at hx
          split at hx
          · rename_i hc
            exact ⟨k.toNat, ⟨by omega, hc.2.2⟩, by congr 1; omega⟩
          · cases hx
        | _ => cases hx
      | _ => cases hx)
  rw [this, List.length_map]; rfl
theorem getD_parts (g : List Slt) (i : Nat) (hi : i < g.length) : g[i].1 = (g[i]?.getD zS).1 ∧ g[i].2.1 = (g[i]?.getD zS).2.1 ∧ g[i].2.2 = (g[i]?.getD zS).2.2 := by
  rw [List.getElem?_eq_getElem hi]; exact ⟨rfl, rfl, rfl⟩
set_option maxHeartbeats 400000 in
theorem Get_calls (tb mb : Nat) (l : List Slt) (c : Int) (w : World) (hT : TabW w tb mb l) : Calls Tryz.prog 38 #[.pointer (some ⟨tb, 0, none⟩), .int .i64 c] w fun e w' => e = .returned (slotV (tget l c)) ∧ Fr [] w w' := by
  have h0 : w.cell? ⟨tb, 0, none⟩ = some (.int .i64 l.length) := hT.blk.cell 0
  have h1 : w.cell? ⟨tb, 1, none⟩ = some (.map (some mb)) := hT.blk.cell 1
  have hlt := hT.lt.1
  have hlm := hT.lt.2
  have hlen := hT.len
  obtain ⟨es, clock, hm, hi⟩ := hT.map
  have hlook : ∀ (k : Int) (W : World), 0 ≤ k → k < 16 → mapAt W mb = some (es, clock) → (Instr.lookup 122 (.map (some mb)) (.int .i64 k) false).run Tryz.prog W = .ok (.agg (gC (grp l k.toNat))) W := fun k W a b hW => by
    rw [run_lookup_isM Tryz.underlying122 keyInt hi false (keyI a b) W (zeroGroup W) hW, tabM_getD hT.right a b]; rfl
  by_cases hc : 0 ≤ c ∧ c < l.length
  · obtain ⟨hc0, hc1⟩ := hc
    have hd0 : 0 ≤ c / 16 := by omega
    have hd1 : c / 16 < 16 := by omega
    have hr0 : 0 ≤ c % 16 := by omega
    have hr1 : c % 16 < 16 := by omega
    have hix := fun W => indexGroup (grp l (c / 16).toNat) (grp_length _ _) (c % 16) hr0 hr1 W
    go_enter Tryz.func38, Tryz.ntmps38
    go_wp2
    go_wp2
    have hg : (grp l (c / 16).toNat).getD (c % 16).toNat zS = tget l c := grp_tget hc0
    exact bodyPost_ret (v := slotV ((grp l (c / 16).toNat).getD (c % 16).toNat zS)) (by simp [results, Tryz.results38, go_sem]; exact getD_parts _ _ (by rw [grp_length]; omega)) rfl ⟨by rw [hg], (Fr.refl _ _).alloc _⟩
  · have hg : tget l c = zS := tget_out (by omega)
    by_cases hc0 : c < 0
    · go_enter Tryz.func38, Tryz.ntmps38
      go_wp2
      exact bodyPost_ret (v := slotV zS) (by simp [results, Tryz.results38, go_sem, zS]) rfl ⟨by first | rfl | rw [hg], (Fr.refl _ _).alloc _⟩
    · have hc1 : (l.length : Int) ≤ c := by omega
      go_enter Tryz.func38, Tryz.ntmps38
      go_wp2
      exact bodyPost_ret (v := slotV zS) (by simp [results, Tryz.results38, go_sem, zS]) rfl ⟨by first | rfl | rw [hg], (Fr.refl _ _).alloc _⟩
set_option maxHeartbeats 400000 in
theorem New_no (n : Int) (w : World) (h : okSize n = false) : Calls Tryz.prog 28 #[.int .i64 n] w fun e w' => e = .returned (.tuple #[.pointer none, .int .i64 1]) ∧ w = w' := by
  go_enter Tryz.func28, Tryz.ntmps28
  go_wp2_with (go_at_call 67; refine (right_calls _ _).mono ?_; rintro e w' ⟨rfl, rfl⟩)
  go_ret2
  exact ⟨rfl, rfl⟩
theorem tabM_empty (n : Nat) : tabM (List.replicate n zS) = fun _ => none := by
  funext x
  cases x with
  | int q k =>
    cases q with
    | i64 =>
      rw [tabM_int, if_neg]
      rintro ⟨_, _, h⟩
      have hr : ∀ s ∈ List.replicate n zS, rightS s = true := fun s hs => by rw [List.eq_of_mem_replicate hs]; rfl
      refine (kept_iff hr).1 h ?_
      rw [zG, List.eq_replicate_iff]
      refine ⟨grp_length _ _, fun s hs => ?_⟩
      obtain ⟨i, _, rfl⟩ := List.mem_map.1 hs
      rw [List.getD_eq_getElem?_getD, List.getElem?_replicate]
      split <;> rfl
    | _ => rfl
  | _ => rfl
theorem TabW_new (n : Int) (w : World) (h : 0 ≤ n ∧ n ≤ 256) : TabW ((w.alloc (.map #[] 0)).alloc (.cells #[.int .i64 n, .map (some w.heap.size)] 124)) (w.heap.size + 1) w.heap.size (List.replicate n.toNat zS) := by
  refine ⟨?_, by simp; omega, fun s hs => by rw [List.eq_of_mem_replicate hs]; rfl, #[], 0, ?_, ?_⟩
  · have := Blk.new (w.alloc (.map #[] 0)) [.int .i64 n, .map (some w.heap.size)] 124
    rw [World.size_alloc] at this
    have e : ((List.replicate n.toNat zS).length : Int) = n := by simp; omega
    rw [e]
    exact this
  · rw [mapAt_some, Below.heap_alloc _ _ _ (by simp)]
    exact heap_alloc_new w _
  · rw [tabM_empty]; exact IsM.empty
set_option maxHeartbeats 400000 in
theorem New_yes (n : Int) (w : World) (h : okSize n = true) : Calls Tryz.prog 28 #[.int .i64 n] w fun e w' => ∃ tb mb, e = .returned (.tuple #[.pointer (some ⟨tb, 0, none⟩), .int .i64 0]) ∧ w.heap.size ≤ tb ∧ w.heap.size ≤ mb ∧ TabW w' tb mb (List.replicate n.toNat zS) ∧ Fr [] w w' := by
  have hmm := @run_makeMap Tryz.prog
  go_enter Tryz.func28, Tryz.ntmps28
  go_wp2_with (go_at_call 67; refine (right_calls _ _).mono ?_; rintro e w' ⟨rfl, rfl⟩)
  go_ret2
  have hn : 0 ≤ n ∧ n ≤ 256 := by simpa [okSize] using h
  exact ⟨w.heap.size + 1, w.heap.size, rfl, by omega, Nat.le_refl _, TabW_new n w hn, ((Fr.refl _ _).alloc _).alloc _⟩
theorem tabM_set {l : List Slt} {c : Nat} (s : Slt) (hc : c < l.length) (hlen : l.length ≤ 256) :
    tabM (l.set c s) = upd (tabM l) (.int .i64 ((c : Int) / 16)) (if keptG (l.set c s) (c / 16) = true then some (.agg (gC (grp (l.set c s) (c / 16)))) else none) := by
  funext x
  by_cases hx : x = .int .i64 ((c : Int) / 16)
  · subst hx
    rw [upd_same, tabM_int]
    have e : ((c : Int) / 16).toNat = c / 16 := by omega
    rw [e]
    by_cases hk : keptG (l.set c s) (c / 16) = true
    · rw [if_pos ⟨by omega, by omega, hk⟩, if_pos hk]
    · rw [if_neg (fun h => hk h.2.2), if_neg hk]
  · rw [upd_other _ _ hx]
    cases x with
    | int q k =>
      cases q with
      | i64 =>
        rw [tabM_int, tabM_int]
        by_cases hk : 0 ≤ k
        · have hne : k.toNat ≠ c / 16 := fun e => hx (by congr 1; omega)
          rw [kept_set_other l c _ s hc hne, grp_set_other l c _ s hc hne]
        · rw [if_neg (fun h => hk h.1), if_neg (fun h => hk h.1)]
      | _ => rfl
    | _ => rfl
theorem TabW_set {w w' : World} {tb mb : Nat} {l : List Slt} {c : Nat} {s : Slt} (hT : TabW w tb mb l) (hc : c < l.length) (hs : rightS s = true) (hf : Fr [mb] w w') {es : Array MapEntry} {clock : Nat} {v : Option Value}
    (hm : mapAt w' mb = some (es, clock)) (hi : IsM Tryz.prog 3 es clock (upd (tabM l) (.int .i64 ((c : Int) / 16)) v))
    (hv : v = if (grp l (c / 16)).set (c % 16) s = zG then none else some (.agg (gC ((grp l (c / 16)).set (c % 16) s)))) : TabW w' tb mb (l.set c s) := by
  have hr : ∀ x ∈ l.set c s, rightS x = true := by
    intro x hx
    rcases List.mem_or_eq_of_mem_set hx with hx | rfl
    · exact hT.right x hx
    · exact hs
  refine ⟨?_, by simpa using hT.len, hr, es, clock, hm, ?_⟩
  · rw [List.length_set]
    exact hT.blk.fr hf (by have := hT.ne; simp; exact this)
  · rw [tabM_set s hc hT.len]
    have : v = if keptG (l.set c s) (c / 16) = true then some (.agg (gC (grp (l.set c s) (c / 16)))) else none := by
      rw [hv, ← grp_set_same l c s hc]
      by_cases hz : grp (l.set c s) (c / 16) = zG
      · rw [if_pos hz, if_neg (fun h => (kept_iff hr).1 h hz)]
      · rw [if_neg hz, if_pos ((kept_iff hr).2 hz)]
    rw [← this]
    exact hi
set_option maxRecDepth 100000 in
set_option maxHeartbeats 800000 in
theorem put_calls (tb mb : Nat) (l : List Slt) (c : Nat) (k h : Int) (o : Bool) (w : World) (hT : TabW w tb mb l) (hc : c < l.length) (hs : rightS (k, h, o) = true) :
    Calls Tryz.prog 88 #[.pointer (some ⟨tb, 0, none⟩), .int .i64 (c : Int), .agg #[.int .i64 k, .int .i64 h, .bool o]] w fun e w' => (∃ v, e = .returned v) ∧ TabW w' tb mb (l.set c (k, h, o)) ∧ Fr [mb] w w' := by
  have h0 : w.cell? ⟨tb, 0, none⟩ = some (.int .i64 l.length) := hT.blk.cell 0
  have h1 : w.cell? ⟨tb, 1, none⟩ = some (.map (some mb)) := hT.blk.cell 1
  have hlt := hT.lt.1
  have hlm := hT.lt.2
  have hlen := hT.len
  obtain ⟨es, clock, hm, hi⟩ := hT.map
  have hlook : ∀ (k : Int) (W : World), 0 ≤ k → k < 16 → mapAt W mb = some (es, clock) → (Instr.lookup 122 (.map (some mb)) (.int .i64 k) false).run Tryz.prog W = .ok (.agg (gC (grp l k.toNat))) W := fun k W a b hW => by
    rw [run_lookup_isM Tryz.underlying122 keyInt hi false (keyI a b) W (zeroGroup W) hW, tabM_getD hT.right a b]; rfl
  have hd0 : (0 : Int) ≤ c / 16 := by omega
  have hd1 : (c : Int) / 16 < 16 := by omega
  have hr0 : (0 : Int) ≤ c % 16 := by omega
  have hr1 : (c : Int) % 16 < 16 := by omega
  have hl1 : ((grp l (c / 16)).set (c % 16) (k, h, o)).length = 16 := by simp [grp_length]
  by_cases hz : (grp l (c / 16)).set (c % 16) (k, h, o) = zG
  · have hzd : decide ((grp l (c / 16)).set (c % 16) (k, h, o) = zG) = true := by simp [hz]
    have Hz := hidIt hz
    clear hz
    go_enter Tryz.func88, Tryz.ntmps88
    go_wp2_with (first | (refine wpList_allocGroup rfl rfl ?_) | (refine wpList_buildGroup rfl rfl ?_) | (refine wpList_storeGroup rfl _ _ rfl _ rfl _ rfl (by simp) (grp_length _ _) (by simp [gC_size, zG_length]) ?_) | (refine wpList_storeSlot rfl _ _ rfl _ _ rfl (c % 16) rfl _ _ _ rfl (by simp) (by simp [grp_length]; omega) ?_) | (refine wpList_loadGroup rfl _ rfl _ rfl (by simp) (by simp [grp_length]) ?_) | (refine wpList_delete_isM rfl _ _ 122 3 rfl Tryz.underlying122 keyInt hi mb rfl _ rfl (keyI hd0 hd1) (by rw [mapAt_alloc _ (by simp; omega), mapAt_alloc _ hlm]; exact hm) ?_; intro es' hi'))
    have hf : Fr [mb] w (putMap ((w.alloc (Obj.cells #[Value.int IntKind.i64 k, Value.int IntKind.i64 h, Value.bool o] 90)).alloc (Obj.cells (gC ((grp l (c / 16)).set (c % 16) (k, h, o))) 136)) mb es' clock) :=
      (((Fr.refl _ w).alloc _).alloc _).trans (putMap_fr _ _ _ _) (by simp)
    exact bodyPost_ret (v := .tuple #[]) (results_none rfl _ _ _) rfl ⟨⟨_, rfl⟩, TabW_set hT hc hs hf (mapAt_putMap (by simp; omega) _ _) hi' (by rw [if_pos Hz.out]), hf⟩
  · have hzd : decide ((grp l (c / 16)).set (c % 16) (k, h, o) = zG) = false := by simp [hz]
    have Hz := hidIt hz
    clear hz
    go_enter Tryz.func88, Tryz.ntmps88
    go_wp2_with (first | (refine wpList_allocGroup rfl rfl ?_) | (refine wpList_buildGroup rfl rfl ?_) | (refine wpList_storeGroup rfl _ _ rfl _ rfl _ rfl (by simp) (grp_length _ _) (by simp [gC_size, zG_length]) ?_) | (refine wpList_storeSlot rfl _ _ rfl _ _ rfl (c % 16) rfl _ _ _ rfl (by simp) (by simp [grp_length]; omega) ?_) | (refine wpList_loadGroup rfl _ rfl _ rfl (by simp) (by simp [grp_length]) ?_))
    have hwr : IntKind.i64.wrap ((c : Int) / 16) = (c : Int) / 16 := IntWalk.i64_in _ (by omega)
    refine wp_region_still_tail 7 follows (by as_aux_lemma => kernel_rfl) ?_
    simp only [List.take_succ_cons, List.take_zero, List.drop_succ_cons, List.drop_zero]
    change wpStill _ _ (World.drew _) _ _ _
    still_step; still_step; still_step; still_step; still_step; still_step
    refine wpStill_loadGroup rfl _ rfl _ rfl (by simp) hl1 ?_
    refine wpStill_nil ?_
    change wpList _ _ _ _ _ (World.drew _)
    refine wpList_mapUpdate_isM rfl _ _ _ 122 rfl Tryz.underlying122 keyInt hi mb rfl _ rfl _ rfl (keyI hd0 hd1) (by rw [mapAt_drew, mapAt_alloc _ (by simp; omega), mapAt_alloc _ hlm]; exact hm) ?_
    intro es' clock' hi'
    refine wpList_nil ?_
    have hf : Fr [mb] w (putMap ((w.alloc (Obj.cells #[Value.int IntKind.i64 k, Value.int IntKind.i64 h, Value.bool o] 90)).alloc (Obj.cells (gC ((grp l (c / 16)).set (c % 16) (k, h, o))) 136)).drew mb es' clock') :=
      (((Fr.refl _ w).alloc _).alloc _).drew.trans (putMap_fr _ _ _ _) (by simp)
    exact bodyPost_end (v := .tuple #[]) (results_none rfl _ _ _) rfl ⟨⟨_, rfl⟩, TabW_set hT hc hs hf (mapAt_putMap (by simp; omega) _ _) hi' (by rw [if_neg Hz.out]; rfl), hf⟩
end Go.Proofs.YtilhbjjjmdnjmaaGreat

namespace Go.Proofs.YtilhbjjjmdnjmaaGreat
open Go.RowKit Go.Maps
attribute [local go_sem] mapAt_alloc mapAt_setCell mapAt_drew mapAt_drewN
attribute [local go_sem high] equalSlot0

theorem tSet_yes {l : List Slt} {c : Int} {s : Slt} (h0 : 0 ≤ c) (h1 : c < l.length) (h2 : rightS s = true) : tSet l c s = (l.set c.toNat s, tget l c, 0) := by
  unfold tSet; rw [if_pos ⟨h0, h1, h2⟩]
theorem tSet_no {l : List Slt} {c : Int} {s : Slt} (h : ¬ (0 ≤ c ∧ c < l.length ∧ rightS s = true)) : tSet l c s = (l, zS, 1) := by
  unfold tSet; rw [if_neg h]
/-- what Set answers -/
def SetPost (w : World) (tb mb : Nat) (r : List Slt × Slt × Int) (e : Ending) (w' : World) : Prop :=
  e = .returned (.tuple #[slotV r.2.1, .int .i64 r.2.2]) ∧ TabW w' tb mb r.1 ∧ Fr [mb] w w'
set_option maxHeartbeats 800000 in
theorem Set_yes (tb mb : Nat) (l : List Slt) (c : Nat) (k h : Int) (o : Bool) (w : World) (hT : TabW w tb mb l) (h1 : c < l.length) (h2 : rightS (k, h, o) = true) :
    Calls Tryz.prog 87 #[.pointer (some ⟨tb, 0, none⟩), .int .i64 (c : Int), .agg #[.int .i64 k, .int .i64 h, .bool o]] w (SetPost w tb mb (l.set c (k, h, o), tget l c, 0)) := by
  have c0 : w.cell? ⟨tb, 0, none⟩ = some (.int .i64 l.length) := hT.blk.cell 0
  have hlt := hT.lt.1
  have hlm := hT.lt.2
  have hlen := hT.len
  go_enter Tryz.func87, Tryz.ntmps87
  go_wp2_with fail
  refine (Right_calls _ _ _ _).mono ?_
  rintro e w1 ⟨rfl, hf⟩
  rw [h2]
  have hF : Fr [] w w1 := (((Fr.refl _ w).alloc _).alloc _).trans0 hf
  replace hT := hT.fr0 hF
  have B5 : Blk w1 w.heap.size [.int .i64 k, .int .i64 h, .bool o] 90 := ((Blk.new w [_, _, _] _).alloc _).fr0 hf
  have B6 : Blk w1 (w.heap.size + 1) [.int .i64 0, .int .i64 0, .bool false] 90 := (Blk.new' (by simp) [_, _, _] _).fr0 hf
  clear hf
  go_wp2_with fail
  refine (Get_calls tb mb l _ _ hT).mono ?_
  rintro e w2 ⟨rfl, hf⟩
  replace hF := hF.trans0 hf
  replace hT := hT.fr0 hf
  replace B5 := B5.fr0 hf
  replace B6 := B6.fr0 hf
  have c5 := B5.cell
  have l5 := B5.lt
  clear hf
  go_wp2_with fail
  have B8 : Blk (w2.alloc (.cells #[.int .i64 (tget l c).1, .int .i64 (tget l c).2.1, .bool (tget l c).2.2] 90)) w2.heap.size (slotC (tget l c)) 90 := Blk.new _ _ _
  refine (put_calls tb mb l c k h o _ (hT.fr0 ((Fr.refl _ _).alloc _)) h1 h2).mono ?_
  rintro e w3 ⟨⟨v, rfl⟩, hT3, hf⟩
  replace hF : Fr [mb] w w3 := (hF.alloc _).weak.trans' hf
  have hlt2 : w.heap.size + 1 < w2.heap.size := B6.lt
  replace B6 := (B6.alloc _).fr hf (by simp; omega)
  replace B8 := B8.fr hf (by simp; omega)
  have c8 := B8.cell
  have c6 := B6.cell
  have f6 := B6.frozen
  clear hf c5 B5
  go_wp2_with fail
  have hfs := Fr.set3 w3 (w.heap.size + 1) (.int .i64 (tget l c).1) (.int .i64 (tget l c).2.1) (.bool (tget l c).2.2)
  exact bodyPost_ret (v := .tuple #[slotV (tget l c), .int .i64 0]) (by simp [results, Tryz.results87, go_sem, c6]) rfl ⟨rfl, hT3.fr hfs (by simp; omega) (by simp; omega), hF.trans1 hfs (by omega)⟩
set_option maxHeartbeats 800000 in
theorem Set_no (tb mb : Nat) (l : List Slt) (c k h : Int) (o : Bool) (w : World) (hT : TabW w tb mb l) (hn : ¬ (0 ≤ c ∧ c < l.length ∧ rightS (k, h, o) = true)) :
    Calls Tryz.prog 87 #[.pointer (some ⟨tb, 0, none⟩), .int .i64 c, .agg #[.int .i64 k, .int .i64 h, .bool o]] w (SetPost w tb mb (l, zS, 1)) := by
  have c0 : w.cell? ⟨tb, 0, none⟩ = some (.int .i64 l.length) := hT.blk.cell 0
  have hlt := hT.lt.1
  have hlm := hT.lt.2
  by_cases h0 : c < 0
  · clear hn
    go_enter Tryz.func87, Tryz.ntmps87
    go_wp2
    exact bodyPost_ret (v := .tuple #[slotV zS, .int .i64 1]) (by simp [results, Tryz.results87, go_sem, zS]) rfl ⟨rfl, hT.fr0 (((Fr.refl _ _).alloc _).alloc _), (((Fr.refl _ _).alloc _).alloc _)⟩
  · by_cases h1 : (l.length : Int) ≤ c
    · clear hn
      have h0' : 0 ≤ c := by omega
      clear h0
      go_enter Tryz.func87, Tryz.ntmps87
      go_wp2
      exact bodyPost_ret (v := .tuple #[slotV zS, .int .i64 1]) (by simp [results, Tryz.results87, go_sem, zS]) rfl ⟨rfl, hT.fr0 (((Fr.refl _ _).alloc _).alloc _), (((Fr.refl _ _).alloc _).alloc _)⟩
    · have h2 : rightS (k, h, o) = false := by
        cases hr : rightS (k, h, o) with
        | false => rfl
        | true => exact absurd ⟨by omega, by omega, hr⟩ hn
      have h0' : 0 ≤ c := by omega
      have h1' : c < l.length := by omega
      clear h0 h1 hn
      go_enter Tryz.func87, Tryz.ntmps87
      go_wp2_with fail
      refine (Right_calls _ _ _ _).mono ?_
      rintro e w1 ⟨rfl, hf⟩
      rw [h2]
      have hF : Fr [] w w1 := (((Fr.refl _ w).alloc _).alloc _).trans0 hf
      replace hT := hT.fr0 hF
      have B6 : Blk w1 (w.heap.size + 1) [.int .i64 0, .int .i64 0, .bool false] 90 := (Blk.new' (by simp) [_, _, _] _).fr0 hf
      have c6 := B6.cell
      have l6 := B6.lt
      have f6 := B6.frozen
      clear hf
      go_wp2
      have hfs := Fr.set3 w1 (w.heap.size + 1) (.int .i64 0) (.int .i64 0) (.bool false)
      exact bodyPost_ret (v := .tuple #[slotV zS, .int .i64 1]) (by simp [results, Tryz.results87, go_sem, c6, zS]) rfl ⟨rfl, hT.fr hfs (by simp; omega) (by simp; omega), hF.weak.trans1 hfs (by omega)⟩
theorem Set_calls (tb mb : Nat) (l : List Slt) (c k h : Int) (o : Bool) (w : World) (hT : TabW w tb mb l) :
    Calls Tryz.prog 87 #[.pointer (some ⟨tb, 0, none⟩), .int .i64 c, .agg #[.int .i64 k, .int .i64 h, .bool o]] w (SetPost w tb mb (tSet l c (k, h, o))) := by
  by_cases hc : 0 ≤ c ∧ c < l.length ∧ rightS (k, h, o) = true
  · rw [tSet_yes hc.1 hc.2.1 hc.2.2]
    obtain ⟨n, rfl⟩ := Int.eq_ofNat_of_zero_le hc.1
    exact Set_yes tb mb l n k h o w hT (by omega) hc.2.2
  · rw [tSet_no hc]
    exact Set_no tb mb l c k h o w hT hc
end Go.Proofs.YtilhbjjjmdnjmaaGreat

namespace Go.Proofs.YtilhbjjjmdnjmaaGreat
open Go.RowKit Go.Maps
attribute [local go_sem] mapAt_alloc mapAt_setCell mapAt_drew mapAt_drewN
attribute [local go_sem high] equalSlot0

/-- the slots with those from n to k struck -/
def tz (l : List Slt) (n k : Nat) : List Slt := l.take n ++ List.replicate (k - n) zS ++ l.drop k
theorem tz_length {l : List Slt} {n k : Nat} (h1 : n ≤ k) (h2 : k ≤ l.length) : (tz l n k).length = l.length := by
  simp [tz]; omega
theorem tz_start (l : List Slt) (n : Nat) : tz l n n = l := by simp [tz]
theorem tz_getD {l : List Slt} {n k : Nat} (h1 : n ≤ k) (h2 : k ≤ l.length) (i : Nat) : (tz l n k).getD i zS = if n ≤ i ∧ i < k then zS else l.getD i zS := by
  unfold tz
  simp only [List.getD_eq_getElem?_getD, List.getElem?_append, List.length_append, List.length_take, List.length_replicate, List.getElem?_take, List.getElem?_replicate, List.getElem?_drop]
  by_cases ha : i < n
  · rw [if_pos (by omega), if_pos (by omega), if_pos ha, if_neg (by omega)]
  · by_cases hb : i < k
    · rw [if_pos (by omega), if_neg (by omega), if_pos (by omega), if_pos (by omega)]; rfl
    · rw [if_neg (by omega), if_neg (by omega)]
      congr 2
      omega
theorem ext_getD {l l' : List Slt} (h : l.length = l'.length) (hi : ∀ i, l.getD i zS = l'.getD i zS) : l = l' := by
  apply List.ext_getElem h
  intro i h1 h2
  have := hi i
  rw [List.getD_eq_getElem?_getD, List.getElem?_eq_getElem h1, List.getD_eq_getElem?_getD, List.getElem?_eq_getElem h2] at this
  exact this
theorem tz_set {l : List Slt} {n k : Nat} (h1 : n ≤ k) (h2 : k < l.length) : (tz l n k).set k zS = tz l n (k + 1) := by
  apply ext_getD
  · rw [List.length_set, tz_length h1 (by omega), tz_length (by omega) (by omega)]
  · intro i
    rw [getD_set _ _ _ _ (by rw [tz_length h1 (by omega)]; exact h2), tz_getD h1 (by omega), tz_getD (by omega) (by omega)]
    by_cases hi : i = k
    · rw [if_pos hi, if_pos (by omega)]
    · rw [if_neg hi]
      by_cases hc : n ≤ i ∧ i < k
      · rw [if_pos hc, if_pos (by omega)]
      · rw [if_neg hc, if_neg (by omega)]
theorem tz_hole {l : List Slt} {n k : Nat} (h1 : n ≤ k) (h2 : k < l.length) (h0 : l.getD k zS = zS) : tz l n k = tz l n (k + 1) := by
  rw [← tz_set h1 h2]
  apply ext_getD (by simp)
  intro i
  rw [getD_set _ _ _ _ (by rw [tz_length h1 (by omega)]; exact h2)]
  by_cases hi : i = k
  · rw [if_pos hi, hi, tz_getD h1 (by omega), if_neg (by omega), h0]
  · rw [if_neg hi]
/-- what is gone, up to k -/
def gone (l : List Slt) (n k : Nat) : List Slt := ((l.drop n).take (k - n)).filter fun s => s.1 != 0
theorem gone_start (l : List Slt) (n : Nat) : gone l n n = [] := by simp [gone]
theorem gone_step {l : List Slt} {n k : Nat} (h1 : n ≤ k) (h2 : k < l.length) : gone l n (k + 1) = gone l n k ++ (if (l.getD k zS).1 != 0 then [l.getD k zS] else []) := by
  unfold gone
  have e : k + 1 - n = (k - n) + 1 := by omega
  have hlt : k - n < (l.drop n).length := by simp; omega
  rw [e, List.take_succ_eq_append_getElem hlt, List.filter_append]
  have hg : (l.drop n)[k - n] = l.getD k zS := by
    rw [List.getElem_drop, List.getD_eq_getElem?_getD, List.getElem?_eq_getElem h2]
    have : n + (k - n) = k := by omega
    simp [this]
  rw [hg]
  by_cases hb : ((l.getD k zS).1 != 0) = true
  · simp only [List.filter_cons, hb, if_true, List.filter_nil]
  · simp only [List.filter_cons, hb, List.filter_nil, if_false, Bool.false_eq_true]
theorem gone_len {l : List Slt} {n k : Nat} : (gone l n k).length ≤ l.length := by
  unfold gone
  refine Nat.le_trans (List.length_filter_le _ _) ?_
  simp; omega
theorem gone_end {l : List Slt} {n : Nat} : gone l n l.length = (l.drop n).filter fun s => s.1 != 0 := by
  unfold gone
  rw [List.take_of_length_le (by simp)]

theorem tabM_congr {l l' : List Slt} (h : ∀ i, l.getD i zS = l'.getD i zS) : tabM l = tabM l' := by
  have hg : ∀ k, grp l k = grp l' k := fun k => by
    unfold grp
    apply List.map_congr_left
    intro i _
    exact h _
  funext x
  cases x with
  | int q k =>
    cases q with
    | i64 => rw [tabM_int, tabM_int, hg]; unfold keptG; rw [hg]
    | _ => rfl
  | _ => rfl
/-- the size is set, the slots are the same -/
theorem TabW_size {w : World} {tb mb : Nat} {l : List Slt} (hT : TabW w tb mb l) {l' : List Slt} (h : ∀ i, l.getD i zS = l'.getD i zS) (hl : l'.length ≤ 256) (hr : ∀ s ∈ l', rightS s = true) :
    TabW (w.setCell ⟨tb, 0, none⟩ (.int .i64 l'.length)) tb mb l' := by
  obtain ⟨es, clock, hm, hi⟩ := hT.map
  refine ⟨hT.blk.setCell 0 _, hl, hr, es, clock, ?_, ?_⟩
  · rw [mapAt_setCell]; exact hm
  · rw [← tabM_congr h]; exact hi

def ResizePost (w : World) (tb mb : Nat) (r : List Slt × List Slt × Int) (e : Ending) (w' : World) : Prop :=
  ∃ v, e = .returned (.tuple #[v, .int .i64 r.2.2]) ∧ w'.ownsRow w.heap.size 90 3 v r.2.1.length (r.2.1.flatMap slotC) ∧ TabW w' tb mb r.1 ∧ Fr [tb, mb] w w'
set_option maxHeartbeats 800000 in
theorem Resize_no (tb mb : Nat) (l : List Slt) (n : Int) (w : World) (hT : TabW w tb mb l) (hn : okSize n = false) :
    Calls Tryz.prog 50 #[.pointer (some ⟨tb, 0, none⟩), .int .i64 n] w (ResizePost w tb mb (l, [], 1)) := by
  go_enter Tryz.func50, Tryz.ntmps50
  go_wp2_with (go_at_call 67; refine (right_calls _ _).mono ?_; rintro e w' ⟨rfl, rfl⟩)
  go_ret2
  exact ⟨_, rfl, World.ownsRow_nil _ _ _ _, hT, Fr.refl _ _⟩
/-- the relation of Resize's loop -/
def ResizeInv (w : World) (tb mb : Nat) (l : List Slt) (n : Nat) (v i : Value) (wr : World) : Prop :=
  ∃ k : Nat, n ≤ k ∧ k ≤ l.length ∧ i = .int .i64 k ∧ TabW wr tb mb (tz l n k) ∧ wr.ownsRow w.heap.size 90 3 v (gone l n k).length ((gone l n k).flatMap slotC) ∧ Fr [mb] w wr
set_option maxRecDepth 100000 in
set_option maxHeartbeats 1600000 in
theorem Resize_cut (tb mb : Nat) (l : List Slt) (n : Nat) (w : World) (hT : TabW w tb mb l) (hn : n ≤ l.length) :
    Calls Tryz.prog 50 #[.pointer (some ⟨tb, 0, none⟩), .int .i64 (n : Int)] w (ResizePost w tb mb (l.take n, gone l n l.length, 0)) := by
  have hok : okSize (n : Int) = true := by have := hT.len; simp [okSize]; omega
  have hlen := hT.len
  obtain ⟨i0, hi, hz0, hz1, hz2⟩ := info_parts infoSlot
  have hlt0 := hT.lt.1
  have hlm0 := hT.lt.2
  go_enter Tryz.func50, Tryz.ntmps50
  go_wp2_with (go_at_call 67; refine (right_calls _ _).mono ?_; rintro e w' ⟨rfl, rfl⟩)
  go_loopw [6, 7] (fun v i wr => ResizeInv w tb mb l n v i wr) (fun _ i _ => l.length - (intOf i).toNat)
  case atStart => exact ⟨n, Nat.le_refl _, hn, rfl, by rw [tz_start]; exact hT, by rw [gone_start]; exact World.ownsRow_nil _ _ _ _, Fr.refl _ _⟩
  case round =>
    obtain ⟨k, hk1, hk2, rfl, hTk, hown, hF⟩ := hrel
    have htl : (tz l n k).length = l.length := tz_length hk1 hk2
    have c0 : wr.cell? ⟨tb, 0, none⟩ = some (.int .i64 l.length) := by have := hTk.blk.cell 0; rw [htl] at this; exact this
    by_cases hlt : k < l.length
    · have hg : tget (tz l n k) (k : Int) = l.getD k zS := by rw [tget_nat, tz_getD hk1 hk2, if_neg (by omega)]
      generalize hs : l.getD k zS = s at *
      go_wp2_with fail
      refine (Get_calls tb mb (tz l n k) _ _ hTk).mono ?_
      rintro e w1 ⟨rfl, hf⟩
      rw [hg]
      replace hTk := hTk.fr0 hf
      replace hF := hF.trans0 hf
      replace hown := owns_fr hown hf (by simp)
      clear hf
      have hgl := gone_len (l := l) (n := n) (k := k)
      have hgs := gone_step (n := n) hk1 hlt
      rw [hs] at hgs
      have hz1s : w.heap.size ≤ w1.heap.size := hF.size
      by_cases hz : (s.1 != 0) = true
      · rw [if_pos hz] at hgs
        have Hgs := hidIt hgs
        clear hgs
        go_wp2_with (at_builtin; refine wpList_append_own _ rfl _ _ 92 rfl w.heap.size 90 i0 _ 3 24 Tryz.underlying92 hi hz0 hz1 hz2 rfl (by decide) _ _ _ rfl ((hown.alloc _).alloc _) ⟨w1.heap.size + 1, 0, none⟩ 1 1 (slotC s) rfl rfl (cells_new (by simp) _ _) slot_one (by unfold maxLen; omega) (by omega) (by simp; omega) ?_; intro v' w2 hown2 hgrow _)
        have hnb := own_base hown
        replace hTk := (hTk.fr0 (((Fr.refl _ w1).alloc _).alloc _)).fr (Fr.of_grown hgrow) (own_notin hown hlt0) (own_notin hown hlm0)
        replace hF := ((hF.alloc _).alloc _).grown hgrow (fun x hx => .inr (hnb x hx))
        refine (put_calls tb mb (tz l n k) k 0 0 false _ hTk (by rw [htl]; exact hlt) rfl).mono ?_
        rintro e w3 ⟨⟨vp, rfl⟩, hT3, hf3⟩
        go_wp2
        go_roundw
        case rel =>
          refine ⟨k + 1, by omega, by omega, by go_num, ?_, ?_, hF.trans' hf3⟩
          · rw [← tz_set hk1 hlt]; exact hT3
          · rw [Hgs.out]
            simp only [List.length_append, List.length_singleton, List.flatMap_append, List.flatMap_cons, List.flatMap_nil, List.append_nil]
            exact owns_fr hown2 hf3 (fun x hx => by have := own_base hown2 x hx; simp; omega)
        case measure => simp [intOf]; omega
      · have hz' : (s.1 != 0) = false := by simpa using hz
        rw [if_neg hz, List.append_nil] at hgs
        have Hgs := hidIt hgs
        clear hgs hz
        go_wp2
        go_roundw
        case rel =>
          have hs0 : s = zS := right_hole (by have := right_getD hT.right k; rw [hs] at this; exact this) (by simpa using hz')
          refine ⟨k + 1, by omega, by omega, by go_num, ?_, ?_, hF.alloc _⟩
          · rw [← tz_hole hk1 hlt (by rw [hs, hs0])]; exact hTk.fr0 ((Fr.refl _ _).alloc _)
          · rw [Hgs.out]
            exact hown.alloc _
        case measure => simp [intOf]; omega
    · have Hke : Hid (k = l.length) := hidIt (by omega)
      have hge : l.length ≤ k := by omega
      clear hlt htl
      have c1 := hTk.blk.frozen
      go_wp2
      go_ret2
      refine ⟨u6, rfl, ?_, ?_, ?_⟩
      · have := owns_setCell hown (a := ⟨tb, 0, none⟩) hlt0 (.int .i64 n)
        rw [Hke.out] at this
        exact this
      · have e : (n : Int) = ((l.take n).length : Int) := by rw [List.length_take]; omega
        rw [e]
        refine TabW_size hTk (fun i => ?_) (by rw [List.length_take]; omega) (fun x hx => hT.right x (List.mem_of_mem_take hx))
        rw [tz_getD hk1 hk2]
        simp only [List.getD_eq_getElem?_getD, List.getElem?_take]
        by_cases hin : i < n
        · rw [if_neg (by omega), if_pos hin]
        · rw [if_neg hin]
          by_cases hik : i < k
          · rw [if_pos (by omega)]; rfl
          · rw [if_neg (by omega), List.getElem?_eq_none (by omega)]
      · exact (hF.mono (by simp)).setCell (.inl (by simp)) _
set_option maxRecDepth 100000 in
set_option maxHeartbeats 800000 in
theorem Resize_more (tb mb : Nat) (l : List Slt) (n : Nat) (w : World) (hT : TabW w tb mb l) (hn : l.length ≤ n) (hn2 : n ≤ 256) :
    Calls Tryz.prog 50 #[.pointer (some ⟨tb, 0, none⟩), .int .i64 (n : Int)] w (ResizePost w tb mb (l ++ List.replicate (n - l.length) zS, [], 0)) := by
  have hok : okSize (n : Int) = true := by simp [okSize]; omega
  have c0 : w.cell? ⟨tb, 0, none⟩ = some (.int .i64 l.length) := hT.blk.cell 0
  have c1 := hT.blk.frozen
  go_enter Tryz.func50, Tryz.ntmps50
  go_wp2_with (go_at_call 67; refine (right_calls _ _).mono ?_; rintro e w' ⟨rfl, rfl⟩)
  refine wp_loop_rounds 1 ?_
  rw [rounds_succ]
  go_wp2
  go_ret2
  refine ⟨_, rfl, World.ownsRow_nil _ _ _ _, ?_, (Fr.refl _ _).setCell (.inl (by simp)) _⟩
  have e : (n : Int) = ((l ++ List.replicate (n - l.length) zS).length : Int) := by simp; omega
  rw [e]
  refine TabW_size hT (fun i => ?_) (by simp; omega) (fun x hx => ?_)
  · rw [List.getD_eq_getElem?_getD, List.getD_eq_getElem?_getD, List.getElem?_append]
    by_cases hi : i < l.length
    · rw [if_pos hi]
    · rw [if_neg hi, List.getElem?_replicate, List.getElem?_eq_none (by omega)]
      split <;> rfl
  · rw [List.mem_append] at hx
    rcases hx with hx | hx
    · exact hT.right x hx
    · rw [List.eq_of_mem_replicate hx]; rfl
theorem Resize_calls (tb mb : Nat) (l : List Slt) (n : Int) (w : World) (hT : TabW w tb mb l) :
    Calls Tryz.prog 50 #[.pointer (some ⟨tb, 0, none⟩), .int .i64 n] w (ResizePost w tb mb (tResize l n)) := by
  by_cases hn : 0 ≤ n ∧ n ≤ 256
  · obtain ⟨m, rfl⟩ := Int.eq_ofNat_of_zero_le hn.1
    unfold tResize
    rw [if_pos hn]
    have hm : ((m : Int)).toNat = m := by omega
    rw [hm]
    by_cases h : m ≤ l.length
    · have e1 : m - l.length = 0 := by omega
      have := Resize_cut tb mb l m w hT h
      rw [gone_end] at this
      rw [e1, List.replicate_zero, List.append_nil]
      exact this
    · have := Resize_more tb mb l m w hT (by omega) (by omega)
      rw [List.take_of_length_le (by omega), List.drop_eq_nil_of_le (by omega)]
      exact this
  · unfold tResize
    rw [if_neg hn]
    exact Resize_no tb mb l n w hT (by simp [okSize]; omega)
end Go.Proofs.YtilhbjjjmdnjmaaGreat
