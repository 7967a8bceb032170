/-
  Package table: each function once: what it answers of the list of slots that the table has.
-/
import Derived.Test.YtknbjdbdpdbeiaaTabLaws
namespace Go.Proofs.Ytknbjdbdpdbeiaa
open Go.RowKit Go.Maps

/-- what the map of a table holds: the groups that are kept -/
def tabM (l : List Slt) : Value → Option Value
  | .int .i64 k => if 0 ≤ k ∧ k < 16 ∧ keptG l k.toNat = true then some (.agg (gC (grp l k.toNat))) else none
  | _ => none
theorem tabM_int (l : List Slt) (k : Int) : tabM l (.int .i64 k) = if 0 ≤ k ∧ k < 16 ∧ keptG l k.toNat = true then some (.agg (gC (grp l k.toNat))) else none := rfl
theorem tabM_getD {l : List Slt} (hr : ∀ s ∈ l, rightS s = true) {k : Int} (h0 : 0 ≤ k) (h1 : k < 16) : (tabM l (.int .i64 k)).getD (.agg (gC (zG))) = .agg (gC (grp l k.toNat)) := by
  rw [tabM_int]
  cases hk : keptG l k.toNat with
  | true => simp [h0, h1]
  | false => simp [kept_false hr hk]
/-- In block tb lies a table, its map in block mb, that has the slots l. -/
structure TabW (w : World) (tb mb : Nat) (l : List Slt) : Prop where
  blk : Blk w tb [.int .i64 l.length, .map (some mb)] 72
  len : l.length ≤ 256
  right : ∀ s ∈ l, rightS s = true
  map : ∃ es clock, mapAt w mb = some (es, clock) ∧ IsM Try.prog 3 es clock (tabM l)
theorem TabW.lt {w : World} {tb mb : Nat} {l : List Slt} (h : TabW w tb mb l) : tb < w.heap.size ∧ mb < w.heap.size := by
  obtain ⟨es, c, hm, _⟩ := h.map
  exact ⟨h.blk.lt, mapAt_lt hm⟩
theorem TabW.ne {w : World} {tb mb : Nat} {l : List Slt} (h : TabW w tb mb l) : tb ≠ mb := by
  rintro rfl
  obtain ⟨es, c, hm, _⟩ := h.map
  have := (mapAt_some.1 hm).symm.trans h.blk
  cases this
theorem TabW.fr {L : List Nat} {w w' : World} {tb mb : Nat} {l : List Slt} (h : TabW w tb mb l) (hf : Fr L w w') (h1 : tb ∉ L) (h2 : mb ∉ L) : TabW w' tb mb l := by
  obtain ⟨es, c, hm, hi⟩ := h.map
  exact ⟨h.blk.fr hf h1, h.len, h.right, es, c, mapAt_fr hm hf h2, hi⟩
theorem TabW.fr0 {w w' : World} {tb mb : Nat} {l : List Slt} (h : TabW w tb mb l) (hf : Fr [] w w') : TabW w' tb mb l := h.fr hf (by simp) (by simp)

theorem keyInt : Keyed Try.prog 3 := int_keyed Try.underlying3
theorem keyI {k : Int} (h0 : 0 ≤ k) (h1 : k < 16) : keyOf Try.prog 3 (.int .i64 k) = some (.int .i64 k) := keyOf_int_mk Try.underlying3 (by simp [Lit.wf, IntKind.min, IntKind.max, IntKind.signed, IntKind.bits]; omega)

attribute [local go_sem] mapAt_alloc mapAt_setCell mapAt_drew mapAt_drewN
attribute [local go_sem high] equalSlot0 equalSlotR0 equalGroup guardGroup buildGroup zeroGroup gC_size grp_length zG_length

/-! ### small ones -/
def okSize (n : Int) : Bool := decide (0 ≤ n) && decide (n ≤ 256)
set_option maxHeartbeats 400000 in
theorem right_calls (s : Int) (w : World) : Calls Try.prog 32 #[.int .i64 s] w fun e w' => e = .returned (.bool (okSize s)) ∧ w = w' := by
  have H1 : 0 ≤ s → Hid (okSize s = decide (s ≤ 256)) := fun h => by simp [Hid, okSize, h]
  have H2 : s < 0 → Hid (okSize s = false) := fun h => by simp [Hid, okSize]; omega
  go_enter Try.func32, Try.ntmps32
  go_wp2
  all_goals go_ret
  · exact ⟨ret_bool (H1 ‹_›).out.symm, rfl⟩
  · exact ⟨ret_bool (H2 ‹_›).out.symm, rfl⟩
theorem right1 {k h : Int} {o : Bool} (h1 : (k == 1) = true) (h2 : 0 ≤ h) : decide (h < 512) = rightS (k, h, o) := by
  have : k = 1 := by simpa using h1
  subst this
  simp [rightS, h2]
theorem right2 {k h : Int} {o : Bool} (h1 : (k == 1) = true) (h2 : h < 0) : false = rightS (k, h, o) := by
  have : k = 1 := by simpa using h1
  subst this
  simp [rightS]; omega
theorem right3 {k h : Int} {o : Bool} (h2 : sEq (k, h, o) (0, 0, false) = true) : true = rightS (k, h, o) := by
  have := (sEq_iff _ _).1 h2
  cases this
  rfl
theorem right4 {k h : Int} {o : Bool} (h1 : (k == 1) = false) (h2 : ¬ sEq (k, h, o) (0, 0, false) = true) : sEq (k, h, o) (2, 0, false) = rightS (k, h, o) := by
  have hk : ¬ k = 1 := by simpa using h1
  simp only [rightS, if_neg hk]
  rw [Bool.eq_iff_iff, sEq_iff]
  simp only [sEq_iff] at h2
  cases o <;> simp at h2 ⊢
  omega
set_option maxHeartbeats 400000 in
theorem Right_calls (k h : Int) (o : Bool) (w : World) : Calls Try.prog 36 #[.agg #[.int .i64 k, .int .i64 h, .bool o]] w fun e w' => e = .returned (.bool (rightS (k, h, o))) ∧ Fr [] w w' := by
  go_enter Try.func36, Try.ntmps36
  go_wp2
  all_goals go_ret
  · exact ⟨ret_bool (right1 ‹_› ‹_›), (Fr.refl _ _).alloc _⟩
  · exact ⟨ret_bool (right2 ‹_› ‹_›), (Fr.refl _ _).alloc _⟩
  · exact ⟨ret_bool (right3 ‹_›), (Fr.refl _ _).alloc _⟩
  · exact ⟨ret_bool (right4 ‹_› ‹_›), (Fr.refl _ _).alloc _⟩
set_option maxHeartbeats 400000 in
theorem Len_calls (tb mb : Nat) (l : List Slt) (w : World) (hT : TabW w tb mb l) : Calls Try.prog 20 #[.pointer (some ⟨tb, 0, none⟩)] w fun e w' => e = .returned (.int .i64 l.length) ∧ w = w' := by
  have h0 : w.cell? ⟨tb, 0, none⟩ = some (.int .i64 l.length) := hT.blk.cell 0
  go_enter Try.func20, Try.ntmps20
  go_wp2
  go_ret
  exact ⟨rfl, rfl⟩
theorem groups_size {l : List Slt} {es : Array MapEntry} {clock : Nat} (h : IsM Try.prog 3 es clock (tabM l)) : es.size = groups l := by
  have := h.size (ks := ((List.range 16).filter (keptG l)).map fun (n : Nat) => Value.int .i64 (n : Int)) (by
    rw [List.pairwise_map]
    refine List.Pairwise.filter _ ?_
    refine List.Pairwise.imp ?_ List.nodup_range
    intro a b hab e
    injection e with _ e
    exact hab (by omega)) (by
    intro x
    simp only [List.mem_map, List.mem_filter, List.mem_range]
    constructor
    · rintro ⟨a, ⟨ha, hk⟩, rfl⟩
      rw [tabM_int, if_pos ⟨by omega, by omega, by simpa using hk⟩]; rfl
    · intro hx
      cases x with
      | int q k =>
        cases q with
        | i64 =>
          rw [tabM_int] at hx
          split at hx
          · rename_i hc
            exact ⟨k.toNat, ⟨by omega, hc.2.2⟩, by congr 1; omega⟩
          · cases hx
        | _ => cases hx
      | _ => cases hx)
  rw [this, List.length_map]; rfl
set_option maxHeartbeats 400000 in
theorem Groups_calls (tb mb : Nat) (l : List Slt) (w : World) (hT : TabW w tb mb l) : Calls Try.prog 17 #[.pointer (some ⟨tb, 0, none⟩)] w fun e w' => e = .returned (.int .i64 (groups l)) ∧ w = w' := by
  have h0 : w.cell? ⟨tb, 1, none⟩ = some (.map (some mb)) := hT.blk.cell 1
  obtain ⟨es, clock, hm, hi⟩ := hT.map
  have hl := run_len_map (P := Try.prog) (ty := 3) Try.underlying70 w hm
  rw [groups_size hi] at hl
  go_enter Try.func17, Try.ntmps17
  go_wp2
  go_ret
  exact ⟨rfl, rfl⟩
theorem getD_parts (g : List Slt) (i : Nat) (hi : i < g.length) : g[i].1 = (g[i]?.getD zS).1 ∧ g[i].2.1 = (g[i]?.getD zS).2.1 ∧ g[i].2.2 = (g[i]?.getD zS).2.2 := by
  rw [List.getElem?_eq_getElem hi]; exact ⟨rfl, rfl, rfl⟩
set_option maxHeartbeats 400000 in
theorem Get_calls (tb mb : Nat) (l : List Slt) (c : Int) (w : World) (hT : TabW w tb mb l) : Calls Try.prog 19 #[.pointer (some ⟨tb, 0, none⟩), .int .i64 c] w fun e w' => e = .returned (slotV (tget l c)) ∧ Fr [] w w' := by
  have h0 : w.cell? ⟨tb, 0, none⟩ = some (.int .i64 l.length) := hT.blk.cell 0
  have h1 : w.cell? ⟨tb, 1, none⟩ = some (.map (some mb)) := hT.blk.cell 1
  have hlt := hT.lt.1
  have hlm := hT.lt.2
  have hlen := hT.len
  obtain ⟨es, clock, hm, hi⟩ := hT.map
  have hlook : ∀ (k : Int) (W : World), 0 ≤ k → k < 16 → mapAt W mb = some (es, clock) → (Instr.lookup 70 (.map (some mb)) (.int .i64 k) false).run Try.prog W = .ok (.agg (gC (grp l k.toNat))) W := fun k W a b hW => by
    rw [run_lookup_isM Try.underlying70 keyInt hi false (keyI a b) W (zeroGroup W) hW, tabM_getD hT.right a b]; rfl
  by_cases hc : 0 ≤ c ∧ c < l.length
  · obtain ⟨hc0, hc1⟩ := hc
    have hd0 : 0 ≤ c / 16 := by omega
    have hd1 : c / 16 < 16 := by omega
    have hr0 : 0 ≤ c % 16 := by omega
    have hr1 : c % 16 < 16 := by omega
    have hix := fun W => indexGroup (grp l (c / 16).toNat) (grp_length _ _) (c % 16) hr0 hr1 W
    go_enter Try.func19, Try.ntmps19
    go_wp2
    go_wp2
    have hg : (grp l (c / 16).toNat).getD (c % 16).toNat zS = tget l c := grp_tget hc0
    exact bodyPost_ret (v := slotV ((grp l (c / 16).toNat).getD (c % 16).toNat zS)) (by simp [results, Try.results19, go_sem]; exact getD_parts _ _ (by rw [grp_length]; omega)) rfl ⟨by rw [hg], (Fr.refl _ _).alloc _⟩
  · have hg : tget l c = zS := tget_out (by omega)
    by_cases hc0 : c < 0
    · go_enter Try.func19, Try.ntmps19
      go_wp2
      exact bodyPost_ret (v := slotV zS) (by simp [results, Try.results19, go_sem, zS]) rfl ⟨by first | rfl | rw [hg], (Fr.refl _ _).alloc _⟩
    · have hc1 : (l.length : Int) ≤ c := by omega
      go_enter Try.func19, Try.ntmps19
      go_wp2
      exact bodyPost_ret (v := slotV zS) (by simp [results, Try.results19, go_sem, zS]) rfl ⟨by first | rfl | rw [hg], (Fr.refl _ _).alloc _⟩
set_option maxHeartbeats 400000 in
theorem New_no (n : Int) (w : World) (h : okSize n = false) : Calls Try.prog 10 #[.int .i64 n] w fun e w' => e = .returned (.tuple #[.pointer none, .int .i64 1]) ∧ w = w' := by
  go_enter Try.func10, Try.ntmps10
  go_wp2_with (go_at_call 32; refine (right_calls _ _).mono ?_; rintro e w' ⟨rfl, rfl⟩)
  go_ret2
  exact ⟨rfl, rfl⟩
theorem tabM_empty (n : Nat) : tabM (List.replicate n zS) = fun _ => none := by
  funext x
  cases x with
  | int q k =>
    cases q with
    | i64 =>
      rw [tabM_int, if_neg]
      rintro ⟨_, _, h⟩
      have hr : ∀ s ∈ List.replicate n zS, rightS s = true := fun s hs => by rw [List.eq_of_mem_replicate hs]; rfl
      refine (kept_iff hr).1 h ?_
      rw [zG, List.eq_replicate_iff]
      refine ⟨grp_length _ _, fun s hs => ?_⟩
      obtain ⟨i, _, rfl⟩ := List.mem_map.1 hs
      rw [List.getD_eq_getElem?_getD, List.getElem?_replicate]
      split <;> rfl
    | _ => rfl
  | _ => rfl
theorem TabW_new (n : Int) (w : World) (h : 0 ≤ n ∧ n ≤ 256) : TabW ((w.alloc (.map #[] 0)).alloc (.cells #[.int .i64 n, .map (some w.heap.size)] 72)) (w.heap.size + 1) w.heap.size (List.replicate n.toNat zS) := by
  refine ⟨?_, by simp; omega, fun s hs => by rw [List.eq_of_mem_replicate hs]; rfl, #[], 0, ?_, ?_⟩
  · have := Blk.new (w.alloc (.map #[] 0)) [.int .i64 n, .map (some w.heap.size)] 72
    rw [World.size_alloc] at this
    have e : ((List.replicate n.toNat zS).length : Int) = n := by simp; omega
    rw [e]
    exact this
  · rw [mapAt_some, Below.heap_alloc _ _ _ (by simp)]
    exact heap_alloc_new w _
  · rw [tabM_empty]; exact IsM.empty
set_option maxHeartbeats 400000 in
theorem New_yes (n : Int) (w : World) (h : okSize n = true) : Calls Try.prog 10 #[.int .i64 n] w fun e w' => ∃ tb mb, e = .returned (.tuple #[.pointer (some ⟨tb, 0, none⟩), .int .i64 0]) ∧ w.heap.size ≤ tb ∧ w.heap.size ≤ mb ∧ TabW w' tb mb (List.replicate n.toNat zS) ∧ Fr [] w w' := by
  have hmm := @run_makeMap Try.prog
  go_enter Try.func10, Try.ntmps10
  go_wp2_with (go_at_call 32; refine (right_calls _ _).mono ?_; rintro e w' ⟨rfl, rfl⟩)
  go_ret2
  have hn : 0 ≤ n ∧ n ≤ 256 := by simpa [okSize] using h
  exact ⟨w.heap.size + 1, w.heap.size, rfl, by omega, Nat.le_refl _, TabW_new n w hn, ((Fr.refl _ _).alloc _).alloc _⟩
theorem tabM_set {l : List Slt} {c : Nat} (s : Slt) (hc : c < l.length) (hlen : l.length ≤ 256) :
    tabM (l.set c s) = upd (tabM l) (.int .i64 ((c : Int) / 16)) (if keptG (l.set c s) (c / 16) = true then some (.agg (gC (grp (l.set c s) (c / 16)))) else none) := by
  funext x
  by_cases hx : x = .int .i64 ((c : Int) / 16)
  · subst hx
    rw [upd_same, tabM_int]
    have e : ((c : Int) / 16).toNat = c / 16 := by omega
    rw [e]
    by_cases hk : keptG (l.set c s) (c / 16) = true
    · rw [if_pos ⟨by omega, by omega, hk⟩, if_pos hk]
    · rw [if_neg (fun h => hk h.2.2), if_neg hk]
  · rw [upd_other _ _ hx]
    cases x with
    | int q k =>
      cases q with
      | i64 =>
        rw [tabM_int, tabM_int]
        by_cases hk : 0 ≤ k
        · have hne : k.toNat ≠ c / 16 := fun e => hx (by congr 1; omega)
          rw [kept_set_other l c _ s hc hne, grp_set_other l c _ s hc hne]
        · rw [if_neg (fun h => hk h.1), if_neg (fun h => hk h.1)]
      | _ => rfl
    | _ => rfl
theorem TabW_set {w w' : World} {tb mb : Nat} {l : List Slt} {c : Nat} {s : Slt} (hT : TabW w tb mb l) (hc : c < l.length) (hs : rightS s = true) (hf : Fr [mb] w w') {es : Array MapEntry} {clock : Nat} {v : Option Value}
    (hm : mapAt w' mb = some (es, clock)) (hi : IsM Try.prog 3 es clock (upd (tabM l) (.int .i64 ((c : Int) / 16)) v))
    (hv : v = if (grp l (c / 16)).set (c % 16) s = zG then none else some (.agg (gC ((grp l (c / 16)).set (c % 16) s)))) : TabW w' tb mb (l.set c s) := by
  have hr : ∀ x ∈ l.set c s, rightS x = true := by
    intro x hx
    rcases List.mem_or_eq_of_mem_set hx with hx | rfl
    · exact hT.right x hx
    · exact hs
  refine ⟨?_, by simpa using hT.len, hr, es, clock, hm, ?_⟩
  · rw [List.length_set]
    exact hT.blk.fr hf (by have := hT.ne; simp; exact this)
  · rw [tabM_set s hc hT.len]
    have : v = if keptG (l.set c s) (c / 16) = true then some (.agg (gC (grp (l.set c s) (c / 16)))) else none := by
      rw [hv, ← grp_set_same l c s hc]
      by_cases hz : grp (l.set c s) (c / 16) = zG
      · rw [if_pos hz, if_neg (fun h => (kept_iff hr).1 h hz)]
      · rw [if_neg hz, if_pos ((kept_iff hr).2 hz)]
    rw [← this]
    exact hi
set_option maxRecDepth 100000 in
set_option maxHeartbeats 800000 in
theorem put_calls (tb mb : Nat) (l : List Slt) (c : Nat) (k h : Int) (o : Bool) (w : World) (hT : TabW w tb mb l) (hc : c < l.length) (hs : rightS (k, h, o) = true) :
    Calls Try.prog 37 #[.pointer (some ⟨tb, 0, none⟩), .int .i64 (c : Int), .agg #[.int .i64 k, .int .i64 h, .bool o]] w fun e w' => (∃ v, e = .returned v) ∧ TabW w' tb mb (l.set c (k, h, o)) ∧ Fr [mb] w w' := by
  have h0 : w.cell? ⟨tb, 0, none⟩ = some (.int .i64 l.length) := hT.blk.cell 0
  have h1 : w.cell? ⟨tb, 1, none⟩ = some (.map (some mb)) := hT.blk.cell 1
  have hlt := hT.lt.1
  have hlm := hT.lt.2
  have hlen := hT.len
  obtain ⟨es, clock, hm, hi⟩ := hT.map
  have hlook : ∀ (k : Int) (W : World), 0 ≤ k → k < 16 → mapAt W mb = some (es, clock) → (Instr.lookup 70 (.map (some mb)) (.int .i64 k) false).run Try.prog W = .ok (.agg (gC (grp l k.toNat))) W := fun k W a b hW => by
    rw [run_lookup_isM Try.underlying70 keyInt hi false (keyI a b) W (zeroGroup W) hW, tabM_getD hT.right a b]; rfl
  have hd0 : (0 : Int) ≤ c / 16 := by omega
  have hd1 : (c : Int) / 16 < 16 := by omega
  have hr0 : (0 : Int) ≤ c % 16 := by omega
  have hr1 : (c : Int) % 16 < 16 := by omega
  have hl1 : ((grp l (c / 16)).set (c % 16) (k, h, o)).length = 16 := by simp [grp_length]
  by_cases hz : (grp l (c / 16)).set (c % 16) (k, h, o) = zG
  · have hzd : decide ((grp l (c / 16)).set (c % 16) (k, h, o) = zG) = true := by simp [hz]
    have Hz := hidIt hz
    clear hz
    go_enter Try.func37, Try.ntmps37
    go_wp2_with (first | (refine wpList_allocGroup rfl rfl ?_) | (refine wpList_buildGroup rfl rfl ?_) | (refine wpList_storeGroup rfl _ _ rfl _ rfl _ rfl (by simp) (grp_length _ _) (by simp [gC_size, zG_length]) ?_) | (refine wpList_storeSlot rfl _ _ rfl _ _ rfl (c % 16) rfl _ _ _ rfl (by simp) (by simp [grp_length]; omega) ?_) | (refine wpList_loadGroup rfl _ rfl _ rfl (by simp) (by simp [grp_length]) ?_) | (refine wpList_delete_isM rfl _ _ 70 3 rfl Try.underlying70 keyInt hi mb rfl _ rfl (keyI hd0 hd1) (by rw [mapAt_alloc _ (by simp; omega), mapAt_alloc _ hlm]; exact hm) ?_; intro es' hi'))
    have hf : Fr [mb] w (putMap ((w.alloc (Obj.cells #[Value.int IntKind.i64 k, Value.int IntKind.i64 h, Value.bool o] 43)).alloc (Obj.cells (gC ((grp l (c / 16)).set (c % 16) (k, h, o))) 78)) mb es' clock) :=
      (((Fr.refl _ w).alloc _).alloc _).trans (putMap_fr _ _ _ _) (by simp)
    exact bodyPost_ret (v := .tuple #[]) (results_none rfl _ _ _) rfl ⟨⟨_, rfl⟩, TabW_set hT hc hs hf (mapAt_putMap (by simp; omega) _ _) hi' (by rw [if_pos Hz.out]), hf⟩
  · have hzd : decide ((grp l (c / 16)).set (c % 16) (k, h, o) = zG) = false := by simp [hz]
    have Hz := hidIt hz
    clear hz
    go_enter Try.func37, Try.ntmps37
    go_wp2_with (first | (refine wpList_allocGroup rfl rfl ?_) | (refine wpList_buildGroup rfl rfl ?_) | (refine wpList_storeGroup rfl _ _ rfl _ rfl _ rfl (by simp) (grp_length _ _) (by simp [gC_size, zG_length]) ?_) | (refine wpList_storeSlot rfl _ _ rfl _ _ rfl (c % 16) rfl _ _ _ rfl (by simp) (by simp [grp_length]; omega) ?_) | (refine wpList_loadGroup rfl _ rfl _ rfl (by simp) (by simp [grp_length]) ?_))
    have hwr : IntKind.i64.wrap ((c : Int) / 16) = (c : Int) / 16 := IntWalk.i64_in _ (by omega)
    refine wp_region_still_tail 7 follows (by as_aux_lemma => kernel_rfl) ?_
    simp only [List.take_succ_cons, List.take_zero, List.drop_succ_cons, List.drop_zero]
    change wpStill _ _ (World.drew _) _ _ _
    still_step; still_step; still_step; still_step; still_step; still_step
    refine wpStill_loadGroup rfl _ rfl _ rfl (by simp) hl1 ?_
    refine wpStill_nil ?_
    change wpList _ _ _ _ _ (World.drew _)
    refine wpList_mapUpdate_isM rfl _ _ _ 70 rfl Try.underlying70 keyInt hi mb rfl _ rfl _ rfl (keyI hd0 hd1) (by rw [mapAt_drew, mapAt_alloc _ (by simp; omega), mapAt_alloc _ hlm]; exact hm) ?_
    intro es' clock' hi'
    refine wpList_nil ?_
    have hf : Fr [mb] w (putMap ((w.alloc (Obj.cells #[Value.int IntKind.i64 k, Value.int IntKind.i64 h, Value.bool o] 43)).alloc (Obj.cells (gC ((grp l (c / 16)).set (c % 16) (k, h, o))) 78)).drew mb es' clock') :=
      (((Fr.refl _ w).alloc _).alloc _).drew.trans (putMap_fr _ _ _ _) (by simp)
    exact bodyPost_end (v := .tuple #[]) (results_none rfl _ _ _) rfl ⟨⟨_, rfl⟩, TabW_set hT hc hs hf (mapAt_putMap (by simp; omega) _ _) hi' (by rw [if_neg Hz.out]; rfl), hf⟩
end Go.Proofs.Ytknbjdbdpdbeiaa
