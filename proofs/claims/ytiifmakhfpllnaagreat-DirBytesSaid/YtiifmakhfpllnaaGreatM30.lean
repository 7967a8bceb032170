/-
  Package dir: Add.
-/
import Derived.Test.YtiifmakhfpllnaaGreatM28
import Derived.Test.YtiifmakhfpllnaaGreatM25
import Derived.Test.YtiifmakhfpllnaaGreatM18
import Derived.Test.YtiifmakhfpllnaaGreatM02
namespace Go.Proofs.YtiifmakhfpllnaaGreat
open Go.RowKit Go.Maps
attribute [local go_sem] mapAt_alloc mapAt_setCell mapAt_drew mapAt_drewN

set_option maxRecDepth 100000 in
set_option maxHeartbeats 400000 in
theorem Add_arg (s : List UInt8) (dv : Value) (bb : Option Addr) (w : World) (h : okName s = false ∨ bb = none) :
    Calls Tryz.prog 17 #[dv, strL s, .pointer bb] w fun e w' => e = .returned (.int .i64 1) ∧ Fr [] w w' := by
  go_enter Tryz.func17, Tryz.ntmps17
  go_wp2_with fail
  refine (nRight_calls s w).mono ?_
  rintro e w1 ⟨rfl, hf⟩
  cases hr : okName s with
  | false =>
    go_wp2
    go_ret
    exact ⟨rfl, hf⟩
  | true =>
    rw [hr] at h
    rcases h with h | rfl
    · cases h
    · go_wp2
      go_ret
      exact ⟨rfl, hf⟩
set_option maxRecDepth 100000 in
set_option maxHeartbeats 400000 in
theorem Add_there (db mb : Nat) (L : List Cel) (s : List UInt8) (bp : Addr) (w : World) (hD : DirW w db mb L) (hs : okName s = true) (h : findC L s ≠ none ∨ 8 ≤ L.length) :
    Calls Tryz.prog 17 #[.pointer (some ⟨db, 0, none⟩), strL s, .pointer (some bp)] w fun e w' => e = .returned (.int .i64 111) ∧ Fr [] w w' := by
  have hs' : s.length ≤ maxLen := Nat.le_trans (okName_len hs) (by decide)
  go_enter Tryz.func17, Tryz.ntmps17
  go_wp2_with fail
  refine (nRight_calls s w).mono ?_
  rintro e w1 ⟨rfl, hf⟩
  rw [hs]
  have hD1 := hD.fr0 hf
  have c0 := hD1.blk.cell 0
  obtain ⟨es, clock, hm, hi⟩ := hD1.map
  have hl := lookD hi hs' w1 hm
  have hsz := DirW.size hD1.rising hi
  have hlen := fun ty => run_len_map (P := Tryz.prog) (ty := ty) Tryz.underlying46 w1 hm
  cases hc : findC L s with
  | some c =>
    rw [hc] at hl
    unfold cpt Cel.ptr at hl
    go_wp2
    go_ret
    exact ⟨rfl, hf⟩
  | none =>
    rw [hc] at hl h
    unfold cpt at hl
    have h8 : (8 : Int) ≤ es.size := by
      rcases h with h | h
      · exact absurd rfl h
      · omega
    clear hsz
    go_wp2
    go_ret
    exact ⟨rfl, hf⟩
set_option maxRecDepth 100000 in
set_option maxHeartbeats 800000 in
theorem Add_yes (db mb : Nat) (L : List Cel) (s : List UInt8) (tb bm S g : Nat) (l : List Bool) (w : World) (hD : DirW w db mb L) (hs : okName s = true) (hc : findC L s = none) (h8 : L.length < 8) (hB : BitW w tb bm S g l) (hp : pow2 g = true) :
    Calls Tryz.prog 17 #[.pointer (some ⟨db, 0, none⟩), strL s, .pointer (some ⟨tb, 0, none⟩)] w fun e w' => e = .returned (.int .i64 0) ∧ ∃ c : Cel, c.x = ⟨s, true, true, S, g, l⟩ ∧ DirW w' db mb (insC c L) ∧ (∀ k ∈ c.feet, w.heap.size ≤ k) ∧ Fr [mb] w w' := by
  have hs' : s.length ≤ maxLen := Nat.le_trans (okName_len hs) (by decide)
  go_enter Tryz.func17, Tryz.ntmps17
  go_wp2_with fail
  refine (nRight_calls s w).mono ?_
  rintro e w1 ⟨rfl, hf⟩
  rw [hs]
  have hD1 := hD.fr0 hf
  have hB1 := hB.fr0 hf
  have c0 := hD1.blk.cell 0
  obtain ⟨es, clock, hm, hi⟩ := hD1.map
  have hl := lookD hi hs' w1 hm
  have hsz := DirW.size hD1.rising hi
  have hlen := fun ty => run_len_map (P := Tryz.prog) (ty := ty) Tryz.underlying46 w1 hm
  rw [hc] at hl
  unfold cpt at hl
  have h8' : ¬ (8 : Int) ≤ es.size := by omega
  clear hsz
  go_wp2_with fail
  obtain ⟨t, ht⟩ : ∃ t, strL s = .string t := ⟨_, rfl⟩
  have Ht := hidIt ht
  rw [ht]
  clear ht hl
  have hDd := hD1.blk.drew
  refine wp_region_Z 10 (Fr [] w1.drew) [(true, 0), (true, 1), (true, 2), (true, 3), (true, 4), (true, 5), (true, 6), (false, 7), (true, 8), (false, 9)] (by as_aux_lemma => kernel_rfl) (by as_aux_lemma => kernel_rfl) (Fr.refl _ _) ?_
  simp only [inOrder, List.map_cons, List.map_nil, List.getD_cons_zero, List.getD_cons_succ]
  iterate 3
    refine wpG_pure fun K hK => ?_
    go_simp
    refine hK _ ?_
    clear hK K
  refine wpG_val (.map (some mb)) (by first | rfl | go_simp) (fun X hX => by have cc := (hDd.fr0 hX).cell; go_simp) ?_
  simp only [Act.put, List.setIfInBounds_toArray, List.set_cons_zero, List.set_cons_succ]
  iterate 3
    refine wpG_pure fun K hK => ?_
    go_simp
    refine hK _ ?_
    clear hK K
  refine wpG_one fun K hK => ?_
  go_simp
  refine (Copy_calls tb bm S g l _ (hB1.fr0 (Fr.refl [] w1).drew)).mono ?_
  rintro e w2 ⟨tb', mb', rfl, n1, n2, hB2, hf2⟩
  refine hK _ _ (hf2) ?_
  clear hK K
  iterate 1
    refine wpG_pure fun K hK => ?_
    go_simp
    refine hK _ ?_
    clear hK K
  refine wpG_one fun K hK => ?_
  go_simp
  refine hK _ _ (hf2.alloc _) ?_
  clear hK K
  have hm2 := mapAt_fr hm ((Fr.refl [] w1).drew.trans0 hf2) (by simp)
  have hlt2 := mapAt_lt hm2
  have hm3 : mapAt (w2.alloc (.cells #[.string t, .bool true, .bool true, .pointer (some ⟨tb', 0, none⟩)] 56)) mb = some (es, clock) := by rw [mapAt_alloc _ hlt2]; exact hm2
  obtain ⟨es', clock', hr, hi'⟩ := run_mapUpdate_isM (P := Tryz.prog) Tryz.underlying46 keyedStr hi (keyStr hs') (.pointer (some ⟨w2.heap.size, 0, none⟩)) _ hm3
  rw [Ht.out] at hr
  simp only [World.size_drew] at n1 n2
  have hmlt := mapAt_lt hm3
  have Hm := hidIt (mapAt_putMap hmlt es' clock')
  have hf3 := putMap_fr (w2.alloc (.cells #[.string t, .bool true, .bool true, .pointer (some ⟨tb', 0, none⟩)] 56)) mb es' clock'
  have hlb := hB2.lt
  have hlm := mapAt_lt hm
  have hown := hB2.ne
  have hfa : Fr [] w1 (w2.alloc (.cells #[.string t, .bool true, .bool true, .pointer (some ⟨tb', 0, none⟩)] 56)) := ((Fr.refl [] w1).drew.trans0 hf2).alloc _
  have hB3 := (hB2.fr0 ((Fr.refl [] w2).alloc (.cells #[.string t, .bool true, .bool true, .pointer (some ⟨tb', 0, none⟩)] 56))).fr hf3 (by simp; omega) (by simp; omega)
  have hE3 : Blk (putMap (w2.alloc (.cells #[.string t, .bool true, .bool true, .pointer (some ⟨tb', 0, none⟩)] 56)) mb es' clock') w2.heap.size [strL s, .bool true, .bool true, .pointer (some ⟨tb', 0, none⟩)] 56 := by
    rw [Ht.out]
    exact (Blk.new w2 [.string t, .bool true, .bool true, .pointer (some ⟨tb', 0, none⟩)] 56).fr hf3 (by simp; omega)
  have hF3 := hfa.weak.trans' hf3
  have hs0 := hf.size
  have hs1 := hf2.size
  simp only [World.size_drew] at hs1
  have Hd := hidIt (hD1.ins (c := ⟨⟨s, true, true, S, g, l⟩, w2.heap.size, tb', mb'⟩) hc h8 hs hF3 Hm.out hi' ⟨hE3, hB3, hp⟩ (by simp [Cel.feet]; omega) ⟨by show w2.heap.size ≠ tb'; omega, by show w2.heap.size ≠ mb'; omega, hown⟩)
  have Hfr := hidIt (hf.weak.trans' hF3)
  have Hnew : Hid (∀ k ∈ (⟨⟨s, true, true, S, g, l⟩, w2.heap.size, tb', mb'⟩ : Cel).feet, w.heap.size ≤ k) := hidIt (by simp [Cel.feet]; omega)
  clear hE3 hB3 hF3 hfa hf3 hlb hown hs0 hs1 n1 n2 hlm Hm
  generalize putMap (w2.alloc (.cells #[.string t, .bool true, .bool true, .pointer (some ⟨tb', 0, none⟩)] 56)) mb es' clock' = w3 at *
  refine wpG_last fun K hK => ?_
  go_simp
  refine hK _ _ ?_
  clear hK K
  go_wp2
  go_ret
  exact ⟨rfl, _, rfl, Hd.out, Hnew.out, Hfr.out⟩
end Go.Proofs.YtiifmakhfpllnaaGreat

namespace Go.Proofs.YtiifmakhfpllnaaGreat
open Go.RowKit Go.Maps
attribute [local go_sem] mapAt_alloc mapAt_setCell mapAt_drew mapAt_drewN

theorem chC_same {L : List Cel} {p q : List UInt8 → Bool} {f : Ent → Ent} (h : ∀ c ∈ L, p c.x.name = q c.x.name) : chC L p f = chC L q f := by
  unfold chC
  exact List.map_congr_left fun d hd => by rw [h d hd]
theorem chC_zero {L : List Cel} {f : Ent → Ent} : chC L (fun _ => false) f = L := by
  unfold chC
  exact (List.map_congr_left fun d _ => by simp).trans (List.map_id _)
theorem chC_more {L : List Cel} {p : List UInt8 → Bool} {f : Ent → Ent} (hname : ∀ x, (f x).name = x.name) {s : List UInt8} (hp : p s = false) :
    chC (chC L p f) (fun t => decide (t = s)) f = chC L (fun t => p t || decide (t = s)) f := by
  unfold chC
  rw [List.map_map]
  refine List.map_congr_left fun d _ => ?_
  simp only [Function.comp]
  rw [chC_name hname]
  by_cases h : p d.x.name = true
  · have : ¬ d.x.name = s := fun e => by rw [e, hp] at h; cases h
    simp [this]
  · simp [h]
theorem mem_chC_not {L : List Cel} {p : List UInt8 → Bool} {f : Ent → Ent} {c : Cel} (hc : c ∈ L) (hp : p c.x.name = false) : c ∈ chC L p f := mem_chC.2 ⟨c, hc, by rw [hp]; simp⟩
def allC (L : List Cel) (f : Ent → Ent) : List Cel := chC L (fun _ => true) f
theorem feet_chC (L : List Cel) (p : List UInt8 → Bool) (f : Ent → Ent) : feet (chC L p f) = feet L := by
  unfold feet chC
  rw [List.flatMap_map]
  congr 1
  funext d
  simp only [Cel.feet]
  rw [(chC_eb d).1, (chC_eb d).2.1, (chC_eb d).2.2]
/-- where a loop over a directory is -/
structure MidD (w : World) (db mb rb : Nat) (L : List Cel) (f : Ent → Ent) (p : List UInt8 → Bool) (K : Value → Prop) (cnt : Nat) : Prop where
  dir : DirW w db mb (chC L p f)
  rng : RngM Tryz.prog 9 w mb rb (dirM L) K cnt
  left : ∀ c ∈ L, (p c.x.name = false ↔ K (strL c.x.name))
section
variable {w w' : World} {db mb rb cnt cnt' : Nat} {L : List Cel} {f : Ent → Ent} {p : List UInt8 → Bool} {K : Value → Prop}
theorem MidD.start (h : DirW w db mb L) (hr : RngM Tryz.prog 9 w mb rb (dirM L) (fun k => (dirM L k).isSome = true) cnt) : MidD w db mb rb L f (fun _ => false) (fun k => (dirM L k).isSome = true) cnt :=
  ⟨by rw [chC_zero]; exact h, hr, fun c hc => ⟨fun _ => (DirW.one_key L _).1 (List.mem_map.2 ⟨c, hc, rfl⟩), fun _ => rfl⟩⟩
theorem MidD.done (h : MidD w db mb rb L f p K cnt) (hK : ∀ k, ¬ K k) : DirW w db mb (allC L f) := by
  have : chC L p f = allC L f := chC_same fun c hc => by
    cases hp : p c.x.name with
    | true => rfl
    | false => exact absurd ((h.left c hc).1 hp) (hK _)
  rw [← this]
  exact h.dir
/-- where a round of it is -/
theorem MidD.next {K' : Value → Prop} (h : MidD w db mb rb L f p K cnt) (_ : RngM Tryz.prog 9 w' mb rb (dirM L) K' cnt') (hf : Fr [rb] w w') (hrb : ∀ k ∈ homes db mb L, k ≠ rb) : DirW w' db mb (chC L p f) :=
  h.dir.fr hf fun k hk => by
    have : homes db mb (chC L p f) = homes db mb L := by unfold homes; rw [feet_chC]
    rw [this] at hk
    simpa using hrb k hk
theorem MidD.step (h : DirW w db mb (chC L p f)) (hl : ∀ c ∈ L, (p c.x.name = false ↔ K (strL c.x.name))) (hname : ∀ x, (f x).name = x.name) {c : Cel} (hc : c ∈ L) (hK : K (strL c.x.name)) 
    (hr : RngM Tryz.prog 9 w' mb rb (dirM L) (fun x => K x ∧ x ≠ strL c.x.name) cnt') (hf : Fr c.feet w w') (hE : EntW w' (c.on f)) : MidD w' db mb rb L f (fun t => p t || decide (t = c.x.name)) (fun x => K x ∧ x ≠ strL c.x.name) cnt' := by
  have hp := (hl c hc).2 hK
  refine ⟨?_, hr, fun d hd => ?_⟩
  · rw [← chC_more hname hp]
    exact h.one (mem_chC_not hc hp) hname hf hE
  · have := hl d hd
    constructor
    · intro h2
      have h3 := Bool.or_eq_false_iff.1 h2
      exact ⟨this.1 h3.1, fun e => by have := strL_inj e; simp [this] at h3⟩
    · rintro ⟨h2, h3⟩
      refine Bool.or_eq_false_iff.2 ⟨this.2 h2, ?_⟩
      have : ¬ d.x.name = c.x.name := fun e => h3 (by rw [e])
      simpa using this
theorem MidD.ent (h : MidD w db mb rb L f p K cnt) {c : Cel} (hc : c ∈ L) (hK : K (strL c.x.name)) : EntW w c := h.dir.ents c (mem_chC_not hc ((h.left c hc).2 hK))
end
def wrE (f n : Int) (x : Ent) : Ent := if x.on = true then { x with S := (doS x.g (x.S, x.l) (0, f, n)).1.1, l := (doS x.g (x.S, x.l) (0, f, n)).1.2 } else x
def rzE (n : Int) (x : Ent) : Ent := { x with S := (doS x.g (x.S, x.l) (2, 0, n)).1.1, l := (doS x.g (x.S, x.l) (2, 0, n)).1.2 }
theorem wrE_name (f n : Int) (x : Ent) : (wrE f n x).name = x.name := by unfold wrE; split <;> rfl
theorem feet_lt {w : World} {db mb : Nat} {L : List Cel} (h : DirW w db mb L) {c : Cel} (hc : c ∈ L) {k : Nat} (hk : k ∈ c.feet) : k < w.heap.size := h.lt k (by simp only [homes, List.mem_cons]; exact .inr (.inr (mem_feet.2 ⟨c, hc, hk⟩)))
set_option maxRecDepth 100000 in
set_option maxHeartbeats 800000 in
theorem dWrite_calls (db mb : Nat) (L : List Cel) (f n : Int) (w : World) (h : DirW w db mb L) (hn : -9223372036854775808 ≤ n ∧ n ≤ 9223372036854775807) :
    Calls Tryz.prog 18 #[.pointer (some ⟨db, 0, none⟩), .int .i64 f, .int .i64 n] w fun e w' => e = .returned (.tuple #[]) ∧ DirW w' db mb (allC L (wrE f n)) ∧ Fr (feet L) w w' := by
  have c0 := h.blk.cell 0
  obtain ⟨es, clock, hm, hi⟩ := h.map
  go_enter Tryz.func18, Tryz.ntmps18
  go_wp2_with (first
    | (at_range; refine wpList_range_isM rfl _ _ rfl Tryz.underlying46 hi mb rfl hm ?_; intro hrg0)
    | go_in)
  go_frame
  have hF0 := (Fr.refl [] w).alloc (.mapIter (some mb) clock #[] clock)
  go_loopw [7] (fun _ wr => ∃ p K cnt, MidD wr db mb w.heap.size L (wrE f n) p K cnt ∧ Fr (feet L) w wr) (fun _ wr => wr.rangeLeft mb w.heap.size)
  case atStart => exact ⟨_, _, _, MidD.start (h.fr0 hF0) hrg0, hF0.weak⟩
  case round =>
    clear hrg0 hF0 c0 hm hi
    obtain ⟨p, K, cnt, hM, hF⟩ := hrel
    have hleft := hidIt hM.rng.left
    generalize wr = wo at *
    have hrg := hM.rng
    go_wp2_with (first
      | (at_next; refine wpList_next_isM rfl _ rfl mb w.heap.size rfl hrg ?_ ?_)
      | go_in)
    · intro hK
      have hD := hM.done hK
      clear hM hrg
      go_wp2
      exact bodyPost_end (v := .tuple #[]) (results_none rfl _ _ _) rfl ⟨rfl, hD, hF⟩
    · intro k v w1 cnt' hK hv hrg1 hlt hf1 hsz hen
      obtain ⟨c, hc, rfl, rfl⟩ := dirM_some hv
      have hlf : ∀ k ∈ c.feet, k < w.heap.size := fun k hk => feet_lt h hc hk
      have hM1 := hM.next hrg1 hf1 (fun k hk => by have := h.lt k hk; simp; omega)
      have hE := (hM.ent hc hK).fr hf1 (fun k hk hx => by have := hlf k hk; have := List.mem_singleton.1 hx; omega)
      have ce := hE.blk.cell
      have hown := h.own hc
      have keyS := Set_calls c.tb c.mb c.x.S c.x.g c.x.l f n w1 hE.bits hn
      have hF1 : Fr (feet L) w w1 := hF.trans hf1 (fun x hx hl => by have := List.mem_singleton.1 hx; omega)
      have hrn : w.heap.size ∉ c.feet := fun hx => by have := hlf _ hx; omega
      clear hv hrg hf1
      replace hM := hidIt hM
      unfold Cel.ptr at *
      cases hon : c.x.on with
      | false =>
        rw [hon] at ce
        have hEq : c.on (wrE f n) = c := by unfold Cel.on wrE; rw [hon]; rfl
        go_wp2
        go_roundw
        case rel => exact ⟨_, _, _, MidD.step hM1 hM.out.left (wrE_name f n) hc hK hrg1 (Fr.refl _ _) (by rw [hEq]; exact hE), hF1⟩
        case measure => rw [hrg1.left, hleft.out]; omega
      | true =>
        rw [hon] at ce
        go_wp2_with fail
        refine keyS.mono ?_
        rintro e w2 ⟨rfl, hB, hf⟩
        have hE2 : EntW w2 (c.on (wrE f n)) := by
          refine ⟨?_, ?_, ?_⟩
          · have := hE.blk.fr hf (by simp; exact hown.2.1)
            unfold Cel.on wrE
            rw [hon] at this ⊢
            exact this
          · unfold Cel.on wrE
            rw [hon]
            exact hB
          · unfold Cel.on wrE
            rw [hon]
            exact hE.pow
        have hfc : Fr c.feet w1 w2 := hf.mono fun k hk _ => by have := List.mem_singleton.1 hk; simp [Cel.feet, this]
        have hrg2 := hrg1.fr hfc (fun hx => hM.out.dir.home.2 (by rw [feet_chC]; exact mem_feet.2 ⟨c, hc, hx⟩)) hrn
        go_wp2
        go_roundw
        case rel => exact ⟨_, _, _, MidD.step hM1 hM.out.left (wrE_name f n) hc hK hrg2 hfc hE2, hF1.trans' (hfc.mono fun k hk _ => mem_feet.2 ⟨c, hc, hk⟩)⟩
        case measure => rw [hrg2.left, hleft.out]; omega
set_option maxRecDepth 100000 in
set_option maxHeartbeats 800000 in
theorem dResize_no (db : Nat) (n : Int) (w : World) (hn : okSec n = false) :
    Calls Tryz.prog 47 #[.pointer (some ⟨db, 0, none⟩), .int .i64 n] w fun e w' => e = .returned (.int .i64 1) ∧ Fr [] w w' := by
  go_enter Tryz.func47, Tryz.ntmps47
  go_wp2_with fail
  refine (New_no n 1 w (by unfold okNew; rw [hn]; rfl)).mono ?_
  rintro e w1 ⟨rfl, rfl⟩
  go_wp2
  go_ret
  exact ⟨rfl, Fr.refl _ _⟩
set_option maxRecDepth 100000 in
set_option maxHeartbeats 800000 in
theorem dResize_yes (db mb : Nat) (L : List Cel) (n : Int) (w : World) (h : DirW w db mb L) (hn : okSec n = true) :
    Calls Tryz.prog 47 #[.pointer (some ⟨db, 0, none⟩), .int .i64 n] w fun e w' => e = .returned (.int .i64 0) ∧ DirW w' db mb (allC L (rzE n)) ∧ Fr (feet L) w w' := by
  go_enter Tryz.func47, Tryz.ntmps47
  go_wp2_with fail
  refine (New_yes n 1 w (by unfold okNew; rw [hn]; rfl)).mono ?_
  rintro e w1 ⟨tb0, mb0, rfl, _, _, _, hf⟩
  have h1 := h.fr0 hf
  have hsz1 := hf.size
  have c0 := h1.blk.cell 0
  obtain ⟨es, clock, hm, hi⟩ := h1.map
  go_wp2_with (first
    | (at_range; refine wpList_range_isM rfl _ _ rfl Tryz.underlying46 hi mb rfl hm ?_; intro hrg0)
    | go_in)
  go_frame
  have hF0 := (Fr.refl [] w1).alloc (.mapIter (some mb) clock #[] clock)
  go_loopw [8] (fun _ wr => ∃ p K cnt, MidD wr db mb w1.heap.size L (rzE n) p K cnt ∧ Fr (feet L) w wr) (fun _ wr => wr.rangeLeft mb w1.heap.size)
  case atStart => exact ⟨_, _, _, MidD.start (h1.fr0 hF0) hrg0, (hf.trans0 hF0).weak⟩
  case round =>
    clear hrg0 hF0 c0 hm hi
    obtain ⟨p, K, cnt, hM, hF⟩ := hrel
    have hleft := hidIt hM.rng.left
    generalize wr = wo at *
    have hrg := hM.rng
    go_wp2_with (first
      | (at_next; refine wpList_next_isM rfl _ rfl mb w1.heap.size rfl hrg ?_ ?_)
      | go_in)
    · intro hK
      have hD := hM.done hK
      clear hM hrg
      go_wp2
      go_ret
      exact ⟨rfl, hD, hF⟩
    · intro k v w2 cnt' hK hv hrg1 hlt hf1 hsz hen
      obtain ⟨c, hc, rfl, rfl⟩ := dirM_some hv
      have hlf : ∀ k ∈ c.feet, k < w1.heap.size := fun k hk => feet_lt h1 hc hk
      have hM1 := hM.next hrg1 hf1 (fun k hk => by have := h1.lt k hk; simp; omega)
      have hE := (hM.ent hc hK).fr hf1 (fun k hk hx => by have := hlf k hk; have := List.mem_singleton.1 hx; omega)
      have ce := hE.blk.cell
      have hown := h1.own hc
      have keyS := Resize_calls c.tb c.mb c.x.S c.x.g c.x.l 0 n w2 hE.bits
      have hF1 : Fr (feet L) w w2 := hF.trans hf1 (fun x hx hl => by have := List.mem_singleton.1 hx; omega)
      have hrn : w1.heap.size ∉ c.feet := fun hx => by have := hlf _ hx; omega
      clear hv hrg hf1
      replace hM := hidIt hM
      unfold Cel.ptr at *
      go_wp2_with fail
      refine keyS.mono ?_
      rintro e w3 ⟨rfl, hB, hf⟩
      have hE2 : EntW w3 (c.on (rzE n)) := ⟨hE.blk.fr hf (by simp; omega), hB, hE.pow⟩
      have hfc : Fr c.feet w2 w3 := hf.mono fun k hk _ => by simp at hk; simp [Cel.feet]; omega
      have hrg2 := hrg1.fr hfc (fun hx => hM.out.dir.home.2 (by rw [feet_chC]; exact mem_feet.2 ⟨c, hc, hx⟩)) hrn
      go_wp2
      go_roundw
      case rel => exact ⟨_, _, _, MidD.step hM1 hM.out.left (fun _ => rfl) hc hK hrg2 hfc hE2, hF1.trans' (hfc.mono fun k hk _ => mem_feet.2 ⟨c, hc, hk⟩)⟩
      case measure => rw [hrg2.left, hleft.out]; omega
end Go.Proofs.YtiifmakhfpllnaaGreat
