/-
  Package dir: New, Names, of, Switch, Clear, Remove, Get.
-/
import Derived.Test.YtiifmakhfpllnaaGreatM22
import Derived.Test.YtiifmakhfpllnaaGreatM20
import Derived.Test.YtiifmakhfpllnaaGreatM17
namespace Go.Proofs.YtiifmakhfpllnaaGreat
open Go.RowKit Go.Maps
attribute [local go_sem] mapAt_alloc mapAt_setCell mapAt_drew mapAt_drewN

theorem keyedStr : Keyed Tryz.prog 9 := string_keyed Tryz.underlying9
def cpt : Option Cel → Value
  | some c => c.ptr
  | none => .pointer none
theorem cpt_getD (o : Option Cel) : (o.map Cel.ptr).getD (.pointer none) = cpt o := by cases o <;> rfl
theorem zeroEnt (W : World) : (zeroValue 65).run Tryz.prog W = .ok (.pointer none) W := by kernel_rfl
theorem lookD {L : List Cel} {es : Array MapEntry} {clock mb : Nat} (hi : IsM Tryz.prog 9 es clock (dirM L)) {s : List UInt8} (hs : s.length ≤ maxLen) (W : World) (hm : mapAt W mb = some (es, clock)) :
    (Instr.lookup 46 (.map (some mb)) (strL s) false).run Tryz.prog W = .ok (cpt (findC L s)) W := by
  rw [run_lookup_isM Tryz.underlying46 keyedStr hi false (keyStr hs) W (zeroEnt W) hm, dirM_str, cpt_getD]
  rfl
set_option maxHeartbeats 400000 in
theorem dNew_calls (w : World) : Calls Tryz.prog 4 #[] w fun e w' => ∃ db mb, e = .returned (.pointer (some ⟨db, 0, none⟩)) ∧ w.heap.size ≤ db ∧ w.heap.size ≤ mb ∧ DirW w' db mb [] ∧ Fr [] w w' := by
  have hmm := @run_makeMap Tryz.prog
  go_enter Tryz.func4, Tryz.ntmps4
  go_wp2
  go_ret
  refine ⟨w.heap.size + 1, w.heap.size, rfl, by omega, Nat.le_refl _, ⟨?_, ⟨#[], 0, ?_, ?_⟩, by simp, List.Pairwise.nil, by simp, by simp, by simp [feet], by simp [feet]⟩, ((Fr.refl _ _).alloc _).alloc _⟩
  · exact Blk.new' (by simp) [_] _
  · rw [mapAt_alloc _ (by simp), mapAt_some]
    exact heap_alloc_new w _
  · have := IsM.empty (P := Tryz.prog) (K := 9)
    have he : (fun _ => none) = dirM [] := dirM_ext (by simp) (by simp [findC])
    rwa [he] at this
set_option maxHeartbeats 400000 in
theorem Names_calls (db mb : Nat) (L : List Cel) (w : World) (h : DirW w db mb L) : Calls Tryz.prog 15 #[.pointer (some ⟨db, 0, none⟩)] w fun e w' => ∃ v, e = .returned v ∧ SlT w' v (L.map fun c => c.x.name) ∧ Fr [] w w' ∧ ∀ k, v.ownBlock = some k → w.heap.size ≤ k := by
  have c0 := h.blk.cell 0
  obtain ⟨es, clock, hm, hi⟩ := h.map
  have hsz := DirW.size h.rising hi
  have h8 := h.few
  have hlt := mapAt_lt hm
  have hsort : (L.map fun c => c.x.name).Pairwise (· < ·) := by rw [List.pairwise_map]; exact h.rising
  have hmem : ∀ k : List UInt8, k ∈ (L.map fun c => c.x.name) ↔ (dirM L (strL k)).isSome = true := by
    intro k
    rw [← DirW.one_key]
    simp only [List.mem_map]
    constructor
    · rintro ⟨c, hc, rfl⟩; exact ⟨c, hc, rfl⟩
    · rintro ⟨c, hc, e⟩; exact ⟨c, hc, strL_inj e⟩
  go_enter Tryz.func15, Tryz.ntmps15
  go_wp2_with fail
  refine (keysS_calls mb w).mono ?_
  rintro e w1 ⟨rfl, rfl⟩
  go_wp2_with fail
  have B := Blk.new w [.map (some mb)] 46
  refine (sortedS_calls w.heap.size mb 8 _ (B.cell 0) B.lt (by rw [mapAt_alloc _ hlt]; exact hm) hi (by omega) (by decide) _ hsort hmem).mono ?_
  rintro e w2 ⟨v, rfl, hv, hf, hn⟩
  go_wp2
  go_ret
  exact ⟨v, rfl, hv, ((Fr.refl _ _).alloc _).trans0 hf, fun k hk => Nat.le_trans (by simp) (hn k hk)⟩
set_option maxHeartbeats 400000 in
theorem of_none (db mb : Nat) (L : List Cel) (s : List UInt8) (fv : Value) (w : World) (h : DirW w db mb L) (hs : s.length ≤ maxLen) (hc : findC L s = none) :
    Calls Tryz.prog 61 #[.pointer (some ⟨db, 0, none⟩), strL s, fv] w fun e w' => e = .returned (.int .i64 112) ∧ w' = w := by
  have c0 := h.blk.cell 0
  obtain ⟨es, clock, hm, hi⟩ := h.map
  have hl := lookD hi hs w hm
  rw [hc] at hl
  unfold cpt at hl
  go_enter Tryz.func61, Tryz.ntmps61
  go_wp2
  go_ret
  exact ⟨rfl, rfl⟩
set_option maxRecDepth 100000 in
set_option maxHeartbeats 400000 in
theorem of_Switch (db mb : Nat) (L : List Cel) (s : List UInt8) (caps : List Value) (c : Cel) (w : World) (h : DirW w db mb L) (hs : s.length ≤ maxLen) (hc : findC L s = some c) {Q : World → Prop}
    (hQ : Calls Tryz.prog 62 (c.ptr :: caps).toArray w fun e w' => e = .returned (.tuple #[]) ∧ Q w') :
    Calls Tryz.prog 61 #[.pointer (some ⟨db, 0, none⟩), strL s, .func (.func 62) #[] caps.toArray] w fun e w' => e = .returned (.int .i64 0) ∧ Q w' := by
  have c0 := h.blk.cell 0
  obtain ⟨es, clock, hm, hi⟩ := h.map
  have hl := lookD hi hs w hm
  rw [hc] at hl
  unfold cpt Cel.ptr at hl
  go_enter Tryz.func61, Tryz.ntmps61
  go_wp2_with fail
  refine hQ.mono ?_
  rintro e w1 ⟨rfl, hq⟩
  go_wp2
  go_ret
  exact ⟨rfl, hq⟩
set_option maxRecDepth 100000 in
set_option maxHeartbeats 400000 in
theorem of_Remove (db mb : Nat) (L : List Cel) (s : List UInt8) (caps : List Value) (c : Cel) (w : World) (h : DirW w db mb L) (hs : s.length ≤ maxLen) (hc : findC L s = some c) {Q : World → Prop}
    (hQ : Calls Tryz.prog 78 (c.ptr :: caps).toArray w fun e w' => e = .returned (.tuple #[]) ∧ Q w') :
    Calls Tryz.prog 61 #[.pointer (some ⟨db, 0, none⟩), strL s, .func (.func 78) #[] caps.toArray] w fun e w' => e = .returned (.int .i64 0) ∧ Q w' := by
  have c0 := h.blk.cell 0
  obtain ⟨es, clock, hm, hi⟩ := h.map
  have hl := lookD hi hs w hm
  rw [hc] at hl
  unfold cpt Cel.ptr at hl
  go_enter Tryz.func61, Tryz.ntmps61
  go_wp2_with fail
  refine hQ.mono ?_
  rintro e w1 ⟨rfl, hq⟩
  go_wp2
  go_ret
  exact ⟨rfl, hq⟩
end Go.Proofs.YtiifmakhfpllnaaGreat

namespace Go.Proofs.YtiifmakhfpllnaaGreat
open Go.RowKit Go.Maps
attribute [local go_sem] mapAt_alloc mapAt_setCell mapAt_drew mapAt_drewN

def onE (b : Bool) (x : Ent) : Ent := { x with on := b }
def clrE (x : Ent) : Ent := { x with S := (doS x.g (x.S, x.l) (1, 0, x.S)).1.1, l := (doS x.g (x.S, x.l) (1, 0, x.S)).1.2, use := true }
def dn : Option Cel → Int
  | none => 112
  | some _ => 0
def oneC (L : List Cel) (s : List UInt8) (f : Ent → Ent) : List Cel := chC L (fun t => decide (t = s)) f
def oneE (E : List Ent) (s : List UInt8) (f : Ent → Ent) : List Ent := chE E (fun t => decide (t = s)) f
theorem oneC_none {L : List Cel} {s : List UInt8} (hc : findC L s = none) (f : Ent → Ent) : oneC L s f = L := by
  unfold oneC chC
  refine (List.map_congr_left fun d hd => ?_).trans (List.map_id _)
  rw [if_neg (by simpa using findC_none.1 hc d hd)]
  rfl
set_option maxRecDepth 100000 in
set_option maxHeartbeats 800000 in
theorem Switch1_calls (db mb : Nat) (L : List Cel) (c : Cel) (kb : Nat) (b : Bool) (w : World) (h : DirW w db mb L) (hc : c ∈ L) (B : Blk w kb [.bool b] 4) :
    Calls Tryz.prog 62 (c.ptr :: [.pointer (some ⟨kb, 0, none⟩)]).toArray w fun e w' => e = .returned (.tuple #[]) ∧ DirW w' db mb (oneC L c.x.name (onE b)) ∧ Fr [c.eb] w w' := by
  have c0 := B.cell 0
  have hE := h.ents c hc
  have ce := hE.blk.cell
  have cf := hE.blk.frozen
  have hlt := hE.blk.lt
  have hown := h.own hc
  unfold Cel.ptr
  go_enter Tryz.func62, Tryz.ntmps62
  go_wp2
  have hF : Fr [c.eb] w (w.setCell ⟨c.eb, 1, none⟩ (.bool b)) := (Fr.refl _ _).setCell (.inl (by simp)) _
  refine bodyPost_end (v := .tuple #[]) (results_none rfl _ _ _) rfl ⟨rfl, h.one hc (fun x => rfl) (hF.mono fun k hk _ => by have := List.mem_singleton.1 hk; simp [Cel.feet, this]) ⟨?_, ?_, hE.pow⟩, hF⟩
  · exact hE.blk.setCell 1 _
  · exact hE.bits.fr hF (by simp; exact hown.1.symm) (by simp; exact hown.2.1.symm)
set_option maxRecDepth 100000 in
set_option maxHeartbeats 800000 in
theorem Switch_calls (db mb : Nat) (L : List Cel) (s : List UInt8) (b : Bool) (w : World) (h : DirW w db mb L) (hs : s.length ≤ maxLen) :
    Calls Tryz.prog 19 #[.pointer (some ⟨db, 0, none⟩), strL s, .bool b] w fun e w' => e = .returned (.int .i64 (dn (findC L s))) ∧ DirW w' db mb (oneC L s (onE b)) ∧ Fr (feet L) w w' := by
  have B := Blk.new w [.bool b] 4
  have hF := (Fr.refl [] w).alloc (.cells #[.bool b] 4)
  have h1 := h.fr0 hF
  go_enter Tryz.func19, Tryz.ntmps19
  go_wp2_with fail
  cases hc : findC L s with
  | none =>
    refine (of_none db mb L s _ _ h1 hs hc).mono ?_
    rintro e w1 ⟨rfl, rfl⟩
    go_wp2
    go_ret
    refine ⟨ret_int (by rw [hc]; rfl), ?_, hF.weak⟩
    rw [oneC_none hc]
    exact h1
  | some c =>
    obtain ⟨hm, rfl⟩ := findC_mem hc
    refine (of_Switch db mb L _ [_] c _ h1 hs hc (Switch1_calls db mb L c w.heap.size b _ h1 hm B)).mono ?_
    rintro e w1 ⟨rfl, hD, hf⟩
    go_wp2
    go_ret
    exact ⟨ret_int (by rw [hc]; rfl), hD, (hF.weak).trans' (hf.mono fun k hk _ => mem_feet.2 ⟨c, hm, by simp [Cel.feet]; exact .inl (List.mem_singleton.1 hk)⟩)⟩
set_option maxRecDepth 100000 in
set_option maxHeartbeats 800000 in
theorem Remove1_calls (db mb : Nat) (L : List Cel) (s : List UInt8) (v : Value) (kb nb : Nat) (w : World) (h : DirW w db mb L) (hs : s.length ≤ maxLen) (B : Blk w kb [.pointer (some ⟨db, 0, none⟩)] 24) (C : Blk w nb [strL s] 9) :
    Calls Tryz.prog 78 (v :: [.pointer (some ⟨kb, 0, none⟩), .pointer (some ⟨nb, 0, none⟩)]).toArray w fun e w' => e = .returned (.tuple #[]) ∧ DirW w' db mb (rmC L s) ∧ Fr [mb] w w' := by
  have cb := B.cell 0
  have cn := C.cell 0
  have cd := h.blk.cell 0
  obtain ⟨es, clock, hm, hi⟩ := h.map
  go_enter Tryz.func78, Tryz.ntmps78
  go_wp2_with fail
  refine wp_region_still_tail 5 follows (by as_aux_lemma => kernel_rfl) ?_
  simp only [List.take_succ_cons, List.take_zero, List.drop_succ_cons, List.drop_zero]
  change wpStill _ _ (World.drew _) _ _ _
  iterate 5 still_step
  refine wpStill_nil ?_
  change wpList _ _ _ _ _ (World.drew _)
  refine wpList_delete_isM rfl _ _ _ 9 rfl Tryz.underlying46 keyedStr hi mb rfl _ rfl (keyStr hs) (by rw [mapAt_drew]; exact hm) ?_
  intro es' hi'
  go_wp2
  have hF : Fr [mb] w (putMap w.drew mb es' clock) := ((Fr.refl [mb] w).drew).trans' (putMap_fr _ _ _ _)
  exact bodyPost_end (v := .tuple #[]) (results_none rfl _ _ _) rfl ⟨rfl, h.rm s hF (mapAt_putMap (mapAt_lt hm) _ _) hi', hF⟩
set_option maxRecDepth 100000 in
set_option maxHeartbeats 800000 in
theorem Remove_calls (db mb : Nat) (L : List Cel) (s : List UInt8) (w : World) (h : DirW w db mb L) (hs : s.length ≤ maxLen) :
    Calls Tryz.prog 44 #[.pointer (some ⟨db, 0, none⟩), strL s] w fun e w' => e = .returned (.int .i64 (dn (findC L s))) ∧ DirW w' db mb (rmC L s) ∧ Fr [mb] w w' := by
  have hc : ∃ t, strL s = .string t := ⟨_, rfl⟩
  obtain ⟨t, ht⟩ := hc
  have B := Blk.new w [.pointer (some ⟨db, 0, none⟩)] 24
  have hF := (Fr.refl [] w).alloc (.cells #[.pointer (some ⟨db, 0, none⟩)] 24)
  have C := Blk.new (w.alloc (.cells #[.pointer (some ⟨db, 0, none⟩)] 24)) [strL s] 9
  have hF2 := hF.alloc (.cells #[strL s] 9)
  have B2 := B.alloc (.cells #[strL s] 9)
  have cB := B2.cell 0
  have cC := C.cell 0
  simp only [World.size_alloc] at C cC
  have h1 := h.fr0 hF2
  rw [ht] at hF2 h1 C cC B2 cB
  rw [ht]
  go_enter Tryz.func44, Tryz.ntmps44
  go_wp2_with fail
  rw [← ht] at *
  cases hc : findC L s with
  | none =>
    refine (of_none db mb L s _ _ h1 hs hc).mono ?_
    rintro e w1 ⟨rfl, rfl⟩
    go_wp2
    go_ret
    refine ⟨ret_int (by rw [hc]; rfl), ?_, hF2.weak⟩
    have : rmC L s = L := List.filter_eq_self.2 fun d hd => by simpa using findC_none.1 hc d hd
    rw [this]
    exact h1
  | some c =>
    refine (of_Remove db mb L s [_, _] c _ h1 hs hc (Remove1_calls db mb L s _ _ _ _ h1 hs B2 C)).mono ?_
    rintro e w1 ⟨rfl, hD, hf⟩
    go_wp2
    go_ret
    exact ⟨ret_int (by rw [hc]; rfl), hD, (hF2.weak).trans' hf⟩
set_option maxRecDepth 100000 in
set_option maxHeartbeats 800000 in
theorem Clear1_calls (db mb : Nat) (L : List Cel) (c : Cel) (w : World) (h : DirW w db mb L) (hc : c ∈ L) :
    Calls Tryz.prog 79 (c.ptr :: []).toArray w fun e w' => e = .returned (.tuple #[]) ∧ DirW w' db mb (oneC L c.x.name clrE) ∧ Fr [c.eb, c.mb] w w' := by
  have hE := h.ents c hc
  have ce := hE.blk.cell
  have cf := hE.blk.frozen
  have hlt := hE.blk.lt
  have hown := h.own hc
  have hS := hE.bits.size
  have keyS := Sectors_calls c.tb c.mb c.x.S c.x.g c.x.l w.drew (hE.bits.fr0 (Fr.refl [] w).drew)
  have keyC := Clear_calls c.tb c.mb c.x.S c.x.g c.x.l 0 c.x.S w.drew (hE.bits.fr0 (Fr.refl [] w).drew) (by omega)
  unfold Cel.ptr
  go_enter Tryz.func79, Tryz.ntmps79
  go_wp2_with fail
  go_region_held3 (fun W => W.cell? ⟨c.eb, 3, none⟩ = some (.pointer (some ⟨c.tb, 0, none⟩))) (first | exact ce 3 | exact (hE.blk.drew.fr hf (by simp; exact hown.2.1)).cell 3) (first | (go_at_call 81; refine keyS.mono ?_; rintro e w1 ⟨rfl, rfl⟩) | (go_at_call 80; refine keyC.mono ?_; rintro e w1 ⟨rfl, hB, hf⟩))
  all_goals
    have B1 := hE.blk.drew.fr hf (by simp; exact hown.2.1)
    have d1 := B1.cell
    have d2 := B1.frozen
    have d3 := B1.lt
    go_wp2
    have hF : Fr [c.eb, c.mb] w (w1.setCell ⟨c.eb, 2, none⟩ (.bool true)) := (((Fr.refl [] w).drew.weak).trans' (hf.mono (by simp))).setCell (.inl (by simp)) _
    refine bodyPost_end (v := .tuple #[]) (results_none rfl _ _ _) rfl ⟨rfl, h.one hc (fun x => rfl) (hF.mono fun k hk _ => by simp at hk; simp [Cel.feet]; omega) ⟨?_, ?_, hE.pow⟩, hF⟩
    · exact B1.setCell 2 _
    · exact hB.fr ((Fr.refl [c.eb] w1).setCell (.inl (by simp)) _) (by simp; exact hown.1.symm) (by simp; exact hown.2.1.symm)
end Go.Proofs.YtiifmakhfpllnaaGreat

namespace Go.Proofs.YtiifmakhfpllnaaGreat
open Go.RowKit Go.Maps
attribute [local go_sem] mapAt_alloc mapAt_setCell mapAt_drew mapAt_drewN
set_option maxRecDepth 100000 in
set_option maxHeartbeats 400000 in
theorem of_Clear (db mb : Nat) (L : List Cel) (s : List UInt8) (caps : List Value) (c : Cel) (w : World) (h : DirW w db mb L) (hs : s.length ≤ maxLen) (hc : findC L s = some c) {Q : World → Prop}
    (hQ : Calls Tryz.prog 79 (c.ptr :: caps).toArray w fun e w' => e = .returned (.tuple #[]) ∧ Q w') :
    Calls Tryz.prog 61 #[.pointer (some ⟨db, 0, none⟩), strL s, .func (.func 79) #[] caps.toArray] w fun e w' => e = .returned (.int .i64 0) ∧ Q w' := by
  have c0 := h.blk.cell 0
  obtain ⟨es, clock, hm, hi⟩ := h.map
  have hl := lookD hi hs w hm
  rw [hc] at hl
  unfold cpt Cel.ptr at hl
  go_enter Tryz.func61, Tryz.ntmps61
  go_wp2_with fail
  refine hQ.mono ?_
  rintro e w1 ⟨rfl, hq⟩
  go_wp2
  go_ret
  exact ⟨rfl, hq⟩
set_option maxRecDepth 100000 in
set_option maxHeartbeats 400000 in
theorem of_Get (db mb : Nat) (L : List Cel) (s : List UInt8) (caps : List Value) (c : Cel) (w : World) (h : DirW w db mb L) (hs : s.length ≤ maxLen) (hc : findC L s = some c) {Q : World → Prop}
    (hQ : Calls Tryz.prog 63 (c.ptr :: caps).toArray w fun e w' => e = .returned (.tuple #[]) ∧ Q w') :
    Calls Tryz.prog 61 #[.pointer (some ⟨db, 0, none⟩), strL s, .func (.func 63) #[] caps.toArray] w fun e w' => e = .returned (.int .i64 0) ∧ Q w' := by
  have c0 := h.blk.cell 0
  obtain ⟨es, clock, hm, hi⟩ := h.map
  have hl := lookD hi hs w hm
  rw [hc] at hl
  unfold cpt Cel.ptr at hl
  go_enter Tryz.func61, Tryz.ntmps61
  go_wp2_with fail
  refine hQ.mono ?_
  rintro e w1 ⟨rfl, hq⟩
  go_wp2
  go_ret
  exact ⟨rfl, hq⟩
set_option maxRecDepth 100000 in
set_option maxHeartbeats 400000 in
theorem dClear_calls (db mb : Nat) (L : List Cel) (s : List UInt8) (w : World) (h : DirW w db mb L) (hs : s.length ≤ maxLen) :
    Calls Tryz.prog 45 #[.pointer (some ⟨db, 0, none⟩), strL s] w fun e w' => e = .returned (.int .i64 (dn (findC L s))) ∧ DirW w' db mb (oneC L s clrE) ∧ Fr (feet L) w w' := by
  go_enter Tryz.func45, Tryz.ntmps45
  go_wp2_with fail
  cases hc : findC L s with
  | none =>
    refine (of_none db mb L s _ _ h hs hc).mono ?_
    rintro e w1 ⟨rfl, rfl⟩
    go_wp2
    go_ret
    exact ⟨ret_int (by rw [hc]; rfl), by rw [oneC_none hc]; exact h, Fr.refl _ _⟩
  | some c =>
    obtain ⟨hm, rfl⟩ := findC_mem hc
    refine (of_Clear db mb L _ [] c _ h hs hc (Clear1_calls db mb L c w h hm)).mono ?_
    rintro e w1 ⟨rfl, hD, hf⟩
    go_wp2
    go_ret
    exact ⟨ret_int (by rw [hc]; rfl), hD, hf.mono fun k hk _ => mem_feet.2 ⟨c, hm, by simp at hk; simp [Cel.feet]; omega⟩⟩
/-- an entry as it is told -/
def entV (x : Ent) (tb : Nat) : Value := .agg #[strL x.name, .bool x.on, .bool x.use, .pointer (some ⟨tb, 0, none⟩)]
def noEnt : Value := .agg #[strL [], .bool false, .bool false, .pointer none]
set_option maxRecDepth 100000 in
set_option maxHeartbeats 400000 in
theorem Get1_calls (db mb : Nat) (L : List Cel) (c : Cel) (ob : Nat) (v0 v1 v2 v3 : Value) (w : World) (h : DirW w db mb L) (hc : c ∈ L) (B : Blk w ob [v0, v1, v2, v3] 56) (hob : c.eb ≠ ob ∧ c.tb ≠ ob ∧ c.mb ≠ ob) :
    Calls Tryz.prog 63 (c.ptr :: [.pointer (some ⟨ob, 0, none⟩)]).toArray w fun e w' => e = .returned (.tuple #[]) ∧ ∃ tb' mb', w.heap.size ≤ tb' ∧ w.heap.size ≤ mb' ∧
      Blk w' ob [strL c.x.name, .bool c.x.on, .bool c.x.use, .pointer (some ⟨tb', 0, none⟩)] 56 ∧ BitW w' tb' mb' c.x.S c.x.g c.x.l ∧ Fr [ob] w w' := by
  have hE := h.ents c hc
  have ce := hE.blk.cell
  have cb := B.cell
  have fb := B.frozen
  have lb := B.lt
  obtain ⟨t, ht⟩ : ∃ t, strL c.x.name = .string t := ⟨_, rfl⟩
  rw [ht] at ce
  rw [ht]
  unfold Cel.ptr
  go_enter Tryz.func63, Tryz.ntmps63
  go_wp2_with fail
  have hF : Fr [ob] w ((((w.setCell ⟨ob, 0, none⟩ (.string t)).setCell ⟨ob, 1, none⟩ (.bool c.x.on)).setCell ⟨ob, 2, none⟩ (.bool c.x.use)).setCell ⟨ob, 3, none⟩ (.pointer (some ⟨c.tb, 0, none⟩))) := (((Fr.set3 w ob _ _ _)).setCell (.inl (by simp)) _)
  have B2 := (((B.setCell 0 (.string t)).setCell 1 (.bool c.x.on)).setCell 2 (.bool c.x.use)).setCell 3 (.pointer (some ⟨c.tb, 0, none⟩))
  refine (Copy_calls c.tb c.mb c.x.S c.x.g c.x.l _ (hE.bits.fr hF (by simp; exact hob.2.1) (by simp; exact hob.2.2))).mono ?_
  rintro e w1 ⟨tb', mb', rfl, n1, n2, hB, hf⟩
  have B3 := B2.fr0 hf
  have d1 := B3.cell
  have d2 := B3.frozen
  have d3 := B3.lt
  simp only [World.size_setCell] at n1 n2
  go_wp2
  refine bodyPost_end (v := .tuple #[]) (results_none rfl _ _ _) rfl ⟨rfl, tb', mb', n1, n2, B3.setCell 3 _, hB.fr ((Fr.refl [ob] w1).setCell (.inl (by simp)) _) (by simp; omega) (by simp; omega), (hF.trans0 hf).setCell (.inl (by simp)) _⟩
set_option maxRecDepth 100000 in
set_option maxHeartbeats 400000 in
theorem Get_none (db mb : Nat) (L : List Cel) (s : List UInt8) (w : World) (h : DirW w db mb L) (hs : s.length ≤ maxLen) (hc : findC L s = none) :
    Calls Tryz.prog 20 #[.pointer (some ⟨db, 0, none⟩), strL s] w fun e w' => e = .returned (.tuple #[noEnt, .int .i64 112]) ∧ Fr [] w w' := by
  go_enter Tryz.func20, Tryz.ntmps20
  go_wp2_with fail
  have B0 := Blk.new w [.string ⟨#[]⟩, .bool false, .bool false, .pointer none] 56
  have hF1 := (Fr.refl [] w).alloc (.cells #[.string ⟨#[]⟩, .bool false, .bool false, .pointer none] 56)
  have B1 := Blk.new (w.alloc (.cells #[.string ⟨#[]⟩, .bool false, .bool false, .pointer none] 56)) [.string ⟨#[]⟩, .bool false, .bool false, .pointer none] 56
  simp only [World.size_alloc] at B1
  have hF2 := hF1.alloc (.cells #[.string ⟨#[]⟩, .bool false, .bool false, .pointer none] 56)
  have B0 := B0.alloc (.cells #[.string ⟨#[]⟩, .bool false, .bool false, .pointer none] 56)
  have h1 := h.fr0 hF2
  refine (of_none db mb L s _ _ h1 hs hc).mono ?_
  rintro e w1 ⟨rfl, rfl⟩
  have c0 := B0.cell
  have f0 := B0.frozen
  have l0 := B0.lt
  have c1 := B1.cell
  have l1 := B1.lt
  go_wp2
  exact bodyPost_ret (v := .tuple #[noEnt, .int .i64 112]) (by simp [results, Tryz.results20, go_sem, noEnt, strL, c0]) rfl ⟨rfl, hF2⟩
set_option maxRecDepth 100000 in
set_option maxHeartbeats 400000 in
theorem Get_some (db mb : Nat) (L : List Cel) (s : List UInt8) (c : Cel) (w : World) (h : DirW w db mb L) (hs : s.length ≤ maxLen) (hc : findC L s = some c) :
    Calls Tryz.prog 20 #[.pointer (some ⟨db, 0, none⟩), strL s] w fun e w' => ∃ tb' mb', e = .returned (.tuple #[entV c.x tb', .int .i64 0]) ∧ w.heap.size ≤ tb' ∧ w.heap.size ≤ mb' ∧ BitW w' tb' mb' c.x.S c.x.g c.x.l ∧ Fr [] w w' := by
  go_enter Tryz.func20, Tryz.ntmps20
  go_wp2_with fail
  have B0 := Blk.new w [.string ⟨#[]⟩, .bool false, .bool false, .pointer none] 56
  have hF1 := (Fr.refl [] w).alloc (.cells #[.string ⟨#[]⟩, .bool false, .bool false, .pointer none] 56)
  have B1 := Blk.new (w.alloc (.cells #[.string ⟨#[]⟩, .bool false, .bool false, .pointer none] 56)) [.string ⟨#[]⟩, .bool false, .bool false, .pointer none] 56
  simp only [World.size_alloc] at B1
  have hF2 := hF1.alloc (.cells #[.string ⟨#[]⟩, .bool false, .bool false, .pointer none] 56)
  have B0 := B0.alloc (.cells #[.string ⟨#[]⟩, .bool false, .bool false, .pointer none] 56)
  have h1 := h.fr0 hF2
  obtain ⟨hm, rfl⟩ := findC_mem hc
  have hlt := h.lt
  have hft : ∀ k ∈ c.feet, k < w.heap.size := fun k hk => hlt k (by simp only [homes, List.mem_cons]; exact .inr (.inr (mem_feet.2 ⟨c, hm, hk⟩)))
  have q1 := hft c.eb (by simp [Cel.feet])
  have q2 := hft c.tb (by simp [Cel.feet])
  have q3 := hft c.mb (by simp [Cel.feet])
  refine (of_Get db mb L _ [_] c _ h1 hs hc (Get1_calls db mb L c (w.heap.size + 1) _ _ _ _ _ h1 hm B1 (by omega))).mono ?_
  rintro e w1 ⟨rfl, tb', mb', n1, n2, B3, hB, hf⟩
  obtain ⟨t, ht⟩ : ∃ t, strL c.x.name = .string t := ⟨_, rfl⟩
  rw [ht] at B3
  have B4 := B0.fr hf (by simp)
  have c0 := B4.cell
  have f0 := B4.frozen
  have l0 := B4.lt
  have c1 := B3.cell
  have l1 := B3.lt
  simp only [World.size_alloc] at n1 n2
  have Ht := hidIt ht
  clear ht
  go_wp2
  exact bodyPost_ret (v := .tuple #[.agg #[.string t, .bool c.x.on, .bool c.x.use, .pointer (some ⟨tb', 0, none⟩)], .int .i64 0]) (by simp [results, Tryz.results20, go_sem, ((((B4.setCell 0 (.string t)).setCell 1 (.bool c.x.on)).setCell 2 (.bool c.x.use)).setCell 3 (.pointer (some ⟨tb', 0, none⟩))).cell]) rfl
    ⟨tb', mb', by rw [entV, Ht.out], by omega, by omega, hB.fr ((Fr.set3 w1 w.heap.size _ _ _).setCell (.inl (by simp)) _) (by simp; omega) (by simp; omega), (((hF2.trans hf (by simp)).trans ((Fr.set3 w1 w.heap.size _ _ _).setCell (.inl (by simp)) _) (by simp)))⟩
end Go.Proofs.YtiifmakhfpllnaaGreat
