/-
  Package bits: New, right, granules, Sectors, Count, the closures of Set and Clear, each.
-/
import Derived.Test.YtiifmakhfpllnaaGreatM00
import Derived.Test.YtiifmakhfpllnaaGreatProg
import Derived.Deep.QuietTactic
import Derived.BigQuiet
import Derived.StillTailTactics
namespace Go.Proofs.YtiifmakhfpllnaaGreat
open Go.RowKit Go.Maps

theorem follows : Tryz.prog.follows .mixedOrders = true := by kernel_rfl
/-- what the map of bits holds: the granules that are dirty -/
def bitM (l : List Bool) : Value → Option Value
  | .int .i64 k => if 0 ≤ k ∧ l.getD k.toNat false = true then some (.int .i64 1) else none
  | _ => none
theorem bitM_int (l : List Bool) (k : Int) : bitM l (.int .i64 k) = if 0 ≤ k ∧ l.getD k.toNat false = true then some (.int .i64 1) else none := rfl
/-- In block tb lie bits, their map in block mb: S sectors, g to a granule, the granules l. -/
structure BitW (w : World) (tb mb S g : Nat) (l : List Bool) : Prop where
  blk : Blk w tb [.int .i64 S, .int .i64 g, .map (some mb)] 113
  size : S ≤ 4096
  grain : 0 < g ∧ g ≤ 64
  len : l.length = gran S g
  map : ∃ es clock, mapAt w mb = some (es, clock) ∧ IsM Tryz.prog 3 es clock (bitM l)
theorem BitW.lt {w : World} {tb mb S g : Nat} {l : List Bool} (h : BitW w tb mb S g l) : tb < w.heap.size ∧ mb < w.heap.size := by
  obtain ⟨es, c, hm, _⟩ := h.map
  exact ⟨h.blk.lt, mapAt_lt hm⟩
theorem BitW.ne {w : World} {tb mb S g : Nat} {l : List Bool} (h : BitW w tb mb S g l) : tb ≠ mb := by
  rintro rfl
  obtain ⟨es, c, hm, _⟩ := h.map
  have := (mapAt_some.1 hm).symm.trans h.blk
  cases this
theorem BitW.fr {L : List Nat} {w w' : World} {tb mb S g : Nat} {l : List Bool} (h : BitW w tb mb S g l) (hf : Fr L w w') (h1 : tb ∉ L) (h2 : mb ∉ L) : BitW w' tb mb S g l := by
  obtain ⟨es, c, hm, hi⟩ := h.map
  exact ⟨h.blk.fr hf h1, h.size, h.grain, h.len, es, c, mapAt_fr hm hf h2, hi⟩
theorem BitW.fr0 {w w' : World} {tb mb S g : Nat} {l : List Bool} (h : BitW w tb mb S g l) (hf : Fr [] w w') : BitW w' tb mb S g l := h.fr hf (by simp) (by simp)
theorem gran_le {S g : Nat} (hS : S ≤ 4096) (hg : 0 < g) : gran S g ≤ 4096 := by
  have : ¬ 4096 < gran S g := by
    unfold gran
    rw [ceil_lt hg]
    have : 4096 * 1 ≤ 4096 * g := Nat.mul_le_mul_left _ hg
    omega
  omega
theorem keyInt : Keyed Tryz.prog 3 := int_keyed Tryz.underlying3
theorem keyI {k : Int} (h0 : 0 ≤ k) (h1 : k < 1000000) : keyOf Tryz.prog 3 (.int .i64 k) = some (.int .i64 k) := keyOf_int_mk Tryz.underlying3 (by simp [Lit.wf, IntKind.min, IntKind.max, IntKind.signed, IntKind.bits]; omega)
attribute [local go_sem] mapAt_alloc mapAt_setCell mapAt_drew mapAt_drewN
def okSec (n : Int) : Bool := decide (0 ≤ n) && decide (n ≤ 4096)
set_option maxHeartbeats 400000 in
theorem right_calls (s : Int) (w : World) : Calls Tryz.prog 58 #[.int .i64 s] w fun e w' => e = .returned (.bool (okSec s)) ∧ w = w' := by
  have H1 : 0 ≤ s → Hid (okSec s = decide (s ≤ 4096)) := fun h => by simp [Hid, okSec, h]
  have H2 : s < 0 → Hid (okSec s = false) := fun h => by simp [Hid, okSec]; omega
  go_enter Tryz.func58, Tryz.ntmps58
  go_wp2
  all_goals go_ret
  · exact ⟨ret_bool (H1 ‹_›).out.symm, rfl⟩
  · exact ⟨ret_bool (H2 ‹_›).out.symm, rfl⟩
theorem Sectors_calls (tb mb S g : Nat) (l : List Bool) (w : World) (h : BitW w tb mb S g l) : Calls Tryz.prog 81 #[.pointer (some ⟨tb, 0, none⟩)] w fun e w' => e = .returned (.int .i64 S) ∧ w = w' := by
  have c := h.blk.cell
  go_enter Tryz.func81, Tryz.ntmps81
  go_wp2
  go_ret
  exact ⟨rfl, rfl⟩
theorem granules_calls (tb mb S g : Nat) (l : List Bool) (w : World) (h : BitW w tb mb S g l) : Calls Tryz.prog 67 #[.pointer (some ⟨tb, 0, none⟩)] w fun e w' => e = .returned (.int .i64 (gran S g)) ∧ Fr [] w w' := by
  have c := h.blk.cell
  have hs := h.size
  have hg := h.grain
  go_enter Tryz.func67, Tryz.ntmps67
  have hg0 : (0 : Int) < g := by omega
  have hgn : ¬ (g : Int) = 0 := by omega
  have hq : Int.tdiv ((S : Int) + g - 1) g = (gran S g : Nat) := by
    unfold gran
    have e : (S : Int) + g - 1 = ((S + g - 1 : Nat) : Int) := by omega
    rw [e, Int.ofNat_tdiv]
  have hle := gran_le hs hg.1
  go_wp2_with fail
  go_quiet (fail)
  go_wp2
  go_ret
  exact ⟨rfl, (Fr.refl _ _).drewN _⟩
theorem look_bit {w : World} {mb : Nat} {l : List Bool} {es : Array MapEntry} {clock : Nat} (hi : IsM Tryz.prog 3 es clock (bitM l)) (hm : mapAt w mb = some (es, clock)) (k : Nat) (hk : k < 1000000) :
    (Instr.lookup 111 (.map (some mb)) (.int .i64 (k : Int)) false).run Tryz.prog w = .ok (.int .i64 (if l.getD k false = true then 1 else 0)) w := by
  rw [run_lookup_isM (z := .int .i64 0) Tryz.underlying111 keyInt hi false (keyI (by omega) (by omega)) w (by kernel_rfl) hm, bitM_int]
  have e : ((k : Int)).toNat = k := Int.toNat_natCast k
  rw [e]
  generalize l.getD k false = q
  cases q <;> simp
def isB (S g : Nat) (l : List Bool) (s : Int) : Bool := decide (0 ≤ s) && decide (s < S) && l.getD (s.toNat / g) false
set_option maxRecDepth 100000 in
set_option maxHeartbeats 800000 in
theorem Is_calls (tb mb S g : Nat) (l : List Bool) (s : Int) (w : World) (h : BitW w tb mb S g l) : Calls Tryz.prog 70 #[.pointer (some ⟨tb, 0, none⟩), .int .i64 s] w fun e w' => e = .returned (.bool (isB S g l s)) ∧ Fr [] w w' := by
  have c := h.blk.cell
  have hs := h.size
  have hg := h.grain
  have hg0 : (0 : Int) < g := by omega
  have hgn : ¬ (g : Int) = 0 := by omega
  obtain ⟨es, clock, hm, hi⟩ := h.map
  have Hd : Hid (isB S g l s = (decide (0 ≤ s) && decide (s < S) && l.getD (s.toNat / g) false)) := hidIt rfl
  by_cases h0 : 0 ≤ s
  · obtain ⟨n, rfl⟩ := Int.eq_ofNat_of_zero_le h0
    by_cases h1 : (n : Int) < S
    · have h1' : n < S := by omega
      have hq : Int.tdiv (n : Int) g = ((n / g : Nat) : Int) := Int.ofNat_tdiv n g
      have hkn := Nat.div_le_self n g
      have Hd2 : Hid (isB S g l n = l.getD (n / g) false) := hidIt (by rw [Hd.out]; simp [h1'])
      generalize n / g = k at *
      have hlook : ∀ W, mapAt W mb = some (es, clock) → (Instr.lookup 111 (.map (some mb)) (.int .i64 (k : Int)) false).run Tryz.prog W = .ok (.int .i64 (if l.getD k false = true then 1 else 0)) W := fun W hW => look_bit hi hW k (by omega)
      have hqw : IntKind.i64.wrap (k : Int) = (k : Int) := IntWalk.i64_in _ (by omega)
      generalize l.getD k false = q at *
      cases q
      all_goals go_enter Tryz.func70, Tryz.ntmps70
      all_goals go_wp2_with fail
      all_goals go_quiet (fail)
      all_goals go_wp2
      all_goals go_ret
      all_goals exact ⟨ret_bool (by rw [Hd2.out]), (Fr.refl _ _).drewN _⟩
    · have h1' : ¬ n < S := by omega
      go_enter Tryz.func70, Tryz.ntmps70
      go_wp2_with fail
      go_quiet (fail)
      go_wp2
      go_ret
      exact ⟨ret_bool (by rw [Hd.out]; simp [h1']), (Fr.refl _ _).drewN _⟩
  · have hd : decide (0 ≤ s) = false := by simp; omega
    go_enter Tryz.func70, Tryz.ntmps70
    go_wp2_with fail
    go_quiet (fail)
    go_wp2
    go_ret
    exact ⟨ret_bool (by rw [Hd.out, hd]; rfl), (Fr.refl _ _).drewN _⟩
end Go.Proofs.YtiifmakhfpllnaaGreat

namespace Go.Proofs.YtiifmakhfpllnaaGreat
open Go.RowKit Go.Maps
attribute [local go_sem] mapAt_alloc mapAt_setCell mapAt_drew mapAt_drewN

theorem getD_setB (l : List Bool) (c n : Nat) (b : Bool) (hc : c < l.length) : (l.set c b).getD n false = if n = c then b else l.getD n false := by
  rw [List.getD_eq_getElem?_getD, List.getElem?_set, List.getD_eq_getElem?_getD]
  by_cases h : c = n
  · subst h; simp [hc]
  · rw [if_neg h, if_neg (fun e => h e.symm)]
theorem bitM_set {l : List Bool} {c : Nat} (b : Bool) (hc : c < l.length) : bitM (l.set c b) = upd (bitM l) (.int .i64 (c : Int)) (if b = true then some (.int .i64 1) else none) := by
  funext x
  by_cases hx : x = .int .i64 (c : Int)
  · subst hx
    rw [upd_same, bitM_int, Int.toNat_natCast, getD_setB _ _ _ _ hc, if_pos rfl]
    cases b <;> simp
  · rw [upd_other _ _ hx]
    cases x with
    | int q k =>
      cases q with
      | i64 =>
        rw [bitM_int, bitM_int]
        by_cases h0 : 0 ≤ k
        · have hkc : k.toNat ≠ c := fun e => hx (by rw [← e, Int.toNat_of_nonneg h0])
          rw [getD_setB _ _ _ _ hc, if_neg hkc]
        · rw [if_neg (fun h => h0 h.1), if_neg (fun h => h0 h.1)]
      | _ => rfl
    | _ => rfl
theorem BitW_set {w w' : World} {tb mb S g : Nat} {l : List Bool} {c : Nat} {b : Bool} (h : BitW w tb mb S g l) (hc : c < l.length) (hf : Fr [mb] w w') {es : Array MapEntry} {clock : Nat} (hm : mapAt w' mb = some (es, clock))
    (hi : IsM Tryz.prog 3 es clock (upd (bitM l) (.int .i64 (c : Int)) (if b = true then some (.int .i64 1) else none))) : BitW w' tb mb S g (l.set c b) :=
  ⟨h.blk.fr hf (by have := h.ne; simp; exact this), h.size, h.grain, by rw [List.length_set]; exact h.len, es, clock, hm, by rw [bitM_set b hc]; exact hi⟩
set_option maxRecDepth 100000 in
set_option maxHeartbeats 800000 in
theorem set1_calls (tb mb S g cb : Nat) (l : List Bool) (c : Nat) (w : World) (h : BitW w tb mb S g l) (hc : c < l.length) (B : Blk w cb [.pointer (some ⟨tb, 0, none⟩)] 49) :
    Calls Tryz.prog 77 #[.int .i64 (c : Int), .pointer (some ⟨cb, 0, none⟩)] w fun e w' => (∃ v, e = .returned v) ∧ BitW w' tb mb S g (l.set c true) ∧ Fr [mb] w w' := by
  have cb0 := B.cell
  have ct := h.blk.cell
  have hle := gran_le h.size h.grain.1
  have hlen := h.len
  obtain ⟨es, clock, hm, hi⟩ := h.map
  go_enter Tryz.func77, Tryz.ntmps77
  go_wp2_with (refine wpList_mapUpdate_isM rfl _ _ _ 111 rfl Tryz.underlying111 keyInt hi mb rfl _ rfl _ rfl (keyI (by omega) (by omega)) hm ?_; intro es' clock' hi')
  have hf : Fr [mb] w (putMap w mb es' clock') := (Fr.refl _ w).trans (putMap_fr _ _ _ _) (by simp)
  exact bodyPost_end (v := .tuple #[]) (results_none rfl _ _ _) rfl ⟨⟨_, rfl⟩, BitW_set h hc hf (mapAt_putMap (mapAt_lt hm) _ _) hi', hf⟩
set_option maxRecDepth 100000 in
set_option maxHeartbeats 800000 in
theorem clear1_calls (tb mb S g cb : Nat) (l : List Bool) (c : Nat) (w : World) (h : BitW w tb mb S g l) (hc : c < l.length) (B : Blk w cb [.pointer (some ⟨tb, 0, none⟩)] 49) :
    Calls Tryz.prog 92 #[.int .i64 (c : Int), .pointer (some ⟨cb, 0, none⟩)] w fun e w' => (∃ v, e = .returned v) ∧ BitW w' tb mb S g (l.set c false) ∧ Fr [mb] w w' := by
  have cb0 := B.cell
  have ct := h.blk.cell
  have hle := gran_le h.size h.grain.1
  have hlen := h.len
  obtain ⟨es, clock, hm, hi⟩ := h.map
  go_enter Tryz.func92, Tryz.ntmps92
  go_wp2_with (refine wpList_delete_isM rfl _ _ 111 3 rfl Tryz.underlying111 keyInt hi mb rfl _ rfl (keyI (by omega) (by omega)) hm ?_; intro es' hi')
  have hf : Fr [mb] w (putMap w mb es' clock) := (Fr.refl _ w).trans (putMap_fr _ _ _ _) (by simp)
  exact bodyPost_end (v := .tuple #[]) (results_none rfl _ _ _) rfl ⟨⟨_, rfl⟩, BitW_set h hc hf (mapAt_putMap (mapAt_lt hm) _ _) hi', hf⟩
end Go.Proofs.YtiifmakhfpllnaaGreat

namespace Go.Proofs.YtiifmakhfpllnaaGreat
open Go.RowKit Go.Maps
attribute [local go_sem] mapAt_alloc mapAt_setCell mapAt_drew mapAt_drewN

/-- the granules from a on, up to k, are b -/
def fillB (b : Bool) (l : List Bool) (a k : Nat) : List Bool := (List.range l.length).map fun i => if a ≤ i ∧ i < k then b else l.getD i false
theorem fillB_len (b : Bool) (l : List Bool) (a k : Nat) : (fillB b l a k).length = l.length := by simp [fillB]
theorem fillB_getD (b : Bool) (l : List Bool) (a k i : Nat) (hi : i < l.length) : (fillB b l a k).getD i false = if a ≤ i ∧ i < k then b else l.getD i false := by
  unfold fillB
  rw [List.getD_eq_getElem?_getD, List.getElem?_map, List.getElem?_range hi]
  rfl
theorem extB {l l' : List Bool} (h : l.length = l'.length) (hi : ∀ i, i < l.length → l.getD i false = l'.getD i false) : l = l' := by
  apply List.ext_getElem h
  intro i h1 h2
  have := hi i h1
  rwa [List.getD_eq_getElem?_getD, List.getD_eq_getElem?_getD, List.getElem?_eq_getElem h1, List.getElem?_eq_getElem h2] at this
theorem fillB_start (b : Bool) (l : List Bool) (a k : Nat) (h : k ≤ a) : fillB b l a k = l := extB (fillB_len ..) fun i hi => by
  rw [fillB_len] at hi
  rw [fillB_getD _ _ _ _ _ hi, if_neg (by omega)]
theorem fillB_step (b : Bool) (l : List Bool) (a k : Nat) (ha : a ≤ k) (hk : k < l.length) : fillB b l a (k + 1) = (fillB b l a k).set k b := extB (by simp [fillB_len]) fun i hi => by
  rw [fillB_len] at hi
  rw [getD_setB _ _ _ _ (by rw [fillB_len]; exact hk), fillB_getD _ _ _ _ _ hi, fillB_getD _ _ _ _ _ hi]
  by_cases h1 : i = k
  · subst h1; rw [if_pos ⟨ha, by omega⟩, if_pos rfl]
  · rw [if_neg h1]
    by_cases h2 : a ≤ i ∧ i < k
    · rw [if_pos h2, if_pos ⟨h2.1, by omega⟩]
    · rw [if_neg h2, if_neg (by omega)]
def insideB (S : Nat) (f n : Int) : Prop := 0 ≤ n ∧ 0 ≤ f ∧ n ≤ S ∧ f ≤ S - n
set_option maxRecDepth 100000 in
set_option maxHeartbeats 1600000 in
theorem each_set (tb mb S g cb : Nat) (l : List Bool) (f n : Int) (a : Nat) (e : Int) (w : World) (h : BitW w tb mb S g l) (B : Blk w cb [.pointer (some ⟨tb, 0, none⟩)] 49)
    (hin : insideB S f n) (ha : a ≤ 1000000) (he : e ≤ l.length) :
    Calls Tryz.prog 76 #[.pointer (some ⟨tb, 0, none⟩), .int .i64 f, .int .i64 n, .int .i64 (a : Int), .int .i64 e, .func (.func 77) #[] #[.pointer (some ⟨cb, 0, none⟩)]] w
      fun r w' => r = .returned (.int .i64 0) ∧ BitW w' tb mb S g (fillB true l a e.toNat) ∧ Fr [mb] w w' := by
  have ct := h.blk.cell
  have hS := h.size
  have hle := gran_le h.size h.grain.1
  have hlen := h.len
  obtain ⟨h1, h2, h3, h4⟩ := hin
  have n1 : ¬ n < 0 := by omega
  have n2 : ¬ f < 0 := by omega
  have n3 : ¬ (S : Int) < n := by omega
  have n4 : ¬ (S : Int) - n < f := by omega
  have hcb : cb ≠ mb := by
    rintro rfl
    obtain ⟨es, c, hm, _⟩ := h.map
    have := (mapAt_some.1 hm).symm.trans B
    cases this
  go_enter Tryz.func76, Tryz.ntmps76
  go_wp2_with fail
  go_loopw [13] (fun i wr => ∃ k : Nat, a ≤ k ∧ (k ≤ e.toNat ∨ k = a) ∧ i = .int .i64 k ∧ BitW wr tb mb S g (fillB true l a k) ∧ Fr [mb] w wr) (fun i _ => e.toNat - (intOf i).toNat)
  case atStart => exact ⟨a, Nat.le_refl _, .inr rfl, rfl, by rw [fillB_start _ _ _ _ (Nat.le_refl _)]; exact h, Fr.refl _ _⟩
  case round =>
    obtain ⟨k, hak, hke, rfl, hB, hF⟩ := hrel
    by_cases hlt : (k : Int) < e
    · have hkl : k < l.length := by omega
      have Hst := hidIt (fillB_step true l a k hak hkl)
      have B' := B.fr hF (by simp; exact hcb)
      have hkl2 : k < (fillB true l a k).length := by rw [fillB_len]; exact hkl
      generalize fillB true l a k = l' at *
      go_wp2_with fail
      refine (set1_calls tb mb S g cb l' k _ hB hkl2 B').mono ?_
      rintro r w2 ⟨⟨v, rfl⟩, hB2, hf⟩
      go_wp2
      go_roundw
      case rel => exact ⟨k + 1, by omega, by omega, by go_num, by rw [Hst.out]; exact hB2, hF.trans' hf⟩
      case measure => simp [intOf]; omega
    · have Hk : Hid (fillB true l a e.toNat = fillB true l a k) := hidIt (by
        rcases hke with hke | rfl
        · have : k = e.toNat := by omega
          rw [this]
        · rw [fillB_start _ _ _ _ (Nat.le_refl _), fillB_start _ _ _ _ (by omega)])
      go_wp2
      go_ret
      exact ⟨rfl, by rw [Hk.out]; exact hB, hF⟩
set_option maxRecDepth 100000 in
set_option maxHeartbeats 1600000 in
theorem each_clear (tb mb S g cb : Nat) (l : List Bool) (f n : Int) (a : Nat) (e : Int) (w : World) (h : BitW w tb mb S g l) (B : Blk w cb [.pointer (some ⟨tb, 0, none⟩)] 49)
    (hin : insideB S f n) (ha : a ≤ 1000000) (he : e ≤ l.length) :
    Calls Tryz.prog 76 #[.pointer (some ⟨tb, 0, none⟩), .int .i64 f, .int .i64 n, .int .i64 (a : Int), .int .i64 e, .func (.func 92) #[] #[.pointer (some ⟨cb, 0, none⟩)]] w
      fun r w' => r = .returned (.int .i64 0) ∧ BitW w' tb mb S g (fillB false l a e.toNat) ∧ Fr [mb] w w' := by
  have ct := h.blk.cell
  have hS := h.size
  have hle := gran_le h.size h.grain.1
  have hlen := h.len
  obtain ⟨h1, h2, h3, h4⟩ := hin
  have n1 : ¬ n < 0 := by omega
  have n2 : ¬ f < 0 := by omega
  have n3 : ¬ (S : Int) < n := by omega
  have n4 : ¬ (S : Int) - n < f := by omega
  have hcb : cb ≠ mb := by
    rintro rfl
    obtain ⟨es, c, hm, _⟩ := h.map
    have := (mapAt_some.1 hm).symm.trans B
    cases this
  go_enter Tryz.func76, Tryz.ntmps76
  go_wp2_with fail
  go_loopw [13] (fun i wr => ∃ k : Nat, a ≤ k ∧ (k ≤ e.toNat ∨ k = a) ∧ i = .int .i64 k ∧ BitW wr tb mb S g (fillB false l a k) ∧ Fr [mb] w wr) (fun i _ => e.toNat - (intOf i).toNat)
  case atStart => exact ⟨a, Nat.le_refl _, .inr rfl, rfl, by rw [fillB_start _ _ _ _ (Nat.le_refl _)]; exact h, Fr.refl _ _⟩
  case round =>
    obtain ⟨k, hak, hke, rfl, hB, hF⟩ := hrel
    by_cases hlt : (k : Int) < e
    · have hkl : k < l.length := by omega
      have Hst := hidIt (fillB_step false l a k hak hkl)
      have B' := B.fr hF (by simp; exact hcb)
      have hkl2 : k < (fillB false l a k).length := by rw [fillB_len]; exact hkl
      generalize fillB false l a k = l' at *
      go_wp2_with fail
      refine (clear1_calls tb mb S g cb l' k _ hB hkl2 B').mono ?_
      rintro r w2 ⟨⟨v, rfl⟩, hB2, hf⟩
      go_wp2
      go_roundw
      case rel => exact ⟨k + 1, by omega, by omega, by go_num, by rw [Hst.out]; exact hB2, hF.trans' hf⟩
      case measure => simp [intOf]; omega
    · have Hk : Hid (fillB false l a e.toNat = fillB false l a k) := hidIt (by
        rcases hke with hke | rfl
        · have : k = e.toNat := by omega
          rw [this]
        · rw [fillB_start _ _ _ _ (Nat.le_refl _), fillB_start _ _ _ _ (by omega)])
      go_wp2
      go_ret
      exact ⟨rfl, by rw [Hk.out]; exact hB, hF⟩
set_option maxRecDepth 100000 in
set_option maxHeartbeats 1600000 in
theorem each_no (tb mb S g : Nat) (l : List Bool) (f n a e : Int) (v : Value) (w : World) (h : BitW w tb mb S g l) (fw : -9223372036854775808 ≤ n ∧ n ≤ 9223372036854775807) (hin : ¬ insideB S f n) :
    Calls Tryz.prog 76 #[.pointer (some ⟨tb, 0, none⟩), .int .i64 f, .int .i64 n, .int .i64 a, .int .i64 e, v] w
      fun r w' => r = .returned (.int .i64 1) ∧ w = w' := by
  have ct := h.blk.cell
  have hS := h.size
  by_cases h1 : n < 0
  · go_enter Tryz.func76, Tryz.ntmps76
    go_wp2
    go_ret
    exact ⟨rfl, rfl⟩
  · by_cases h2 : f < 0
    · go_enter Tryz.func76, Tryz.ntmps76
      go_wp2
      go_ret
      exact ⟨rfl, rfl⟩
    · by_cases h3 : (S : Int) < n
      · go_enter Tryz.func76, Tryz.ntmps76
        go_wp2
        go_ret
        exact ⟨rfl, rfl⟩
      · have h4 : (S : Int) - n < f := by
          unfold insideB at hin
          omega
        go_enter Tryz.func76, Tryz.ntmps76
        go_wp2
        go_ret
        exact ⟨rfl, rfl⟩
end Go.Proofs.YtiifmakhfpllnaaGreat

namespace Go.Proofs.YtiifmakhfpllnaaGreat
open Go.RowKit Go.Maps
attribute [local go_sem] mapAt_alloc mapAt_setCell mapAt_drew mapAt_drewN

theorem getD_range (l : List Bool) (p : Nat → Bool) {i : Nat} (hi : i < l.length) : ((List.range l.length).map p).getD i false = p i := by
  rw [List.getD_eq_getElem?_getD, List.getElem?_map, List.getElem?_range hi]; rfl
theorem fill_set {S g : Nat} {l : List Bool} {f n : Nat} (hg : 0 < g) (hl : l.length = gran S g) (hin : f + n ≤ S) : fillB true l (f / g) (if n = 0 then 0 else (f + n + g - 1) / g) = bSet S g l f n := extB (by simp [fillB_len, bSet]) fun i hi => by
  rw [fillB_len] at hi
  have hk : i * g < S := by rw [hl] at hi; exact (ceil_lt hg).1 hi
  have h1 := one_iff (k := i) (f := f) (n := n) hg hk hin
  rw [fillB_getD _ _ _ _ _ hi]
  unfold bSet
  rw [getD_range _ _ hi]
  by_cases h0 : n = 0
  · rw [if_pos h0, if_neg (by omega)]
    have : oneB S g f n i = false := by
      cases hb : oneB S g f n i with
      | false => rfl
      | true => exact absurd h0 (h1.1 hb).1
    rw [this]; rfl
  · rw [if_neg h0]
    by_cases hc : f / g ≤ i ∧ i < (f + n + g - 1) / g
    · rw [if_pos hc, h1.2 ⟨h0, hc⟩]; rfl
    · rw [if_neg hc]
      have : oneB S g f n i = false := by
        cases hb : oneB S g f n i with
        | false => rfl
        | true => exact absurd (h1.1 hb).2 hc
      rw [this]; rfl
theorem fill_clear {S g : Nat} {l : List Bool} {f n : Nat} (hg : 0 < g) (hl : l.length = gran S g) (hin : f + n ≤ S) : fillB false l ((f + g - 1) / g) (if f + n = S then gran S g else (f + n) / g) = bClear S g l f n := extB (by simp [fillB_len, bClear]) fun i hi => by
  rw [fillB_len] at hi
  have hk : i * g < S := by rw [hl] at hi; exact (ceil_lt hg).1 hi
  have h1 := all_iff (k := i) (f := f) (n := n) hg hk hin
  rw [fillB_getD _ _ _ _ _ hi]
  unfold bClear
  rw [getD_range _ _ hi]
  by_cases hc : (f + g - 1) / g ≤ i ∧ i < (if f + n = S then gran S g else (f + n) / g)
  · rw [if_pos hc, h1.2 hc]; rfl
  · rw [if_neg hc]
    have : allB S g f n i = false := by
      cases hb : allB S g f n i with
      | false => rfl
      | true => exact absurd (h1.1 hb) hc
    rw [this]; rfl
set_option maxRecDepth 100000 in
set_option maxHeartbeats 1600000 in
theorem Set_yes (tb mb S g : Nat) (l : List Bool) (f n : Nat) (w : World) (h : BitW w tb mb S g l) (hin : f + n ≤ S) :
    Calls Tryz.prog 43 #[.pointer (some ⟨tb, 0, none⟩), .int .i64 (f : Int), .int .i64 (n : Int)] w
      fun r w' => r = .returned (.int .i64 0) ∧ BitW w' tb mb S g (bSet S g l f n) ∧ Fr [mb] w w' := by
  have ct := h.blk.cell
  have hS := h.size
  have hg := h.grain
  have hle := gran_le h.size hg.1
  have hlen := h.len
  have hins : insideB S f n := ⟨by omega, by omega, by omega, by omega⟩
  have hg0 : (0 : Int) < g := by omega
  have hgn : ¬ (g : Int) = 0 := by omega
  have hgz : ¬ g = 0 := by omega
  have hq1 : Int.tdiv ((f : Int) + n + g - 1) g = (((f + n + g - 1) / g : Nat) : Int) := by
    have e : (f : Int) + n + g - 1 = ((f + n + g - 1 : Nat) : Int) := by omega
    rw [e, Int.ofNat_tdiv]
  have hq2 : Int.tdiv (f : Int) g = ((f / g : Nat) : Int) := Int.ofNat_tdiv f g
  have Hfill := hidIt (fill_set (f := f) (n := n) hg.1 hlen hin)
  have hd1 := Nat.div_le_self (f + n + g - 1) g
  have hd2 := Nat.div_le_self f g
  have hend : n ≠ 0 → (f + n + g - 1) / g ≤ l.length := fun h0 => by
    rw [hlen]
    exact Nat.div_le_div_right (by omega)
  generalize (f + n + g - 1) / g = E at *
  generalize f / g = A at *
  have hwE : IntKind.i64.wrap (E : Int) = (E : Int) := IntWalk.i64_in _ (by omega)
  have hwA : IntKind.i64.wrap (A : Int) = (A : Int) := IntWalk.i64_in _ (by omega)
  have B3 := (Blk.new w [.pointer (some ⟨tb, 0, none⟩)] 49)
  have c3 := B3.cell
  have hlt := h.lt.1
  go_enter Tryz.func43, Tryz.ntmps43
  go_wp2_with fail
  go_quiet (fail)
  by_cases h0 : n = 0
  · subst h0
    go_wp2_with fail
    refine wp_region_still_tail 11 follows (by as_aux_lemma => kernel_rfl) ?_
    simp only [List.take_succ_cons, List.take_zero, List.drop_succ_cons, List.drop_zero]
    change wpStill _ _ (World.drew _) _ _ _
    iterate 11 still_step
    refine wpStill_nil ?_
    change wpList _ _ _ _ _ (World.drew _)
    go_wp2_with fail
    refine (each_set tb mb S g w.heap.size l f 0 A 0 _ (h.fr0 (((Fr.refl _ _).alloc _).drewN _)) (B3.drewN _) (by simpa using hins) (by omega) (by simp)).mono ?_
    rintro r w2 ⟨rfl, hB, hf⟩
    go_wp2
    go_ret
    exact ⟨rfl, by rw [← Hfill.out]; simpa using hB, (((Fr.refl [mb] w).alloc _).drewN _).trans' hf⟩
  · have h0' : ¬ (n : Int) = 0 := by omega
    go_wp2_with fail
    refine wp_region_still_tail 11 follows (by as_aux_lemma => kernel_rfl) ?_
    simp only [List.take_succ_cons, List.take_zero, List.drop_succ_cons, List.drop_zero]
    change wpStill _ _ (World.drew _) _ _ _
    iterate 11 still_step
    refine wpStill_nil ?_
    change wpList _ _ _ _ _ (World.drew _)
    go_wp2_with fail
    refine (each_set tb mb S g w.heap.size l f n A E _ (h.fr0 (((Fr.refl _ _).alloc _).drewN _)) (B3.drewN _) hins (by omega) (by have := hend h0; omega)).mono ?_
    rintro r w2 ⟨rfl, hB, hf⟩
    go_wp2
    go_ret
    exact ⟨rfl, by rw [← Hfill.out]; simpa [h0] using hB, (((Fr.refl [mb] w).alloc _).drewN _).trans' hf⟩
end Go.Proofs.YtiifmakhfpllnaaGreat

namespace Go.Proofs.YtiifmakhfpllnaaGreat
open Go.RowKit Go.Maps
attribute [local go_sem] mapAt_alloc mapAt_setCell mapAt_drew mapAt_drewN

theorem nat_beq {f n S : Nat} (hq : ((f : Int) + n == (S : Int)) = true) : f + n = S := by
  have := eq_of_beq hq
  omega
theorem nat_bne {f n S : Nat} (hq : ((f : Int) + n == (S : Int)) = false) : ¬ f + n = S := by
  have := ne_of_beq_false hq
  omega
set_option maxRecDepth 100000 in
set_option maxHeartbeats 1600000 in
theorem Clear_yes (tb mb S g : Nat) (l : List Bool) (f n : Nat) (w : World) (h : BitW w tb mb S g l) (hin : f + n ≤ S) :
    Calls Tryz.prog 80 #[.pointer (some ⟨tb, 0, none⟩), .int .i64 (f : Int), .int .i64 (n : Int)] w
      fun r w' => r = .returned (.int .i64 0) ∧ BitW w' tb mb S g (bClear S g l f n) ∧ Fr [mb] w w' := by
  have ct := h.blk.cell
  have hS := h.size
  have hg := h.grain
  have hle := gran_le h.size hg.1
  have hlen := h.len
  have hins : insideB S f n := ⟨by omega, by omega, by omega, by omega⟩
  have hg0 : (0 : Int) < g := by omega
  have hgn : ¬ (g : Int) = 0 := by omega
  have hgz : ¬ g = 0 := by omega
  have hq1 : Int.tdiv ((f : Int) + g - 1) g = (((f + g - 1) / g : Nat) : Int) := by
    have e : (f : Int) + g - 1 = ((f + g - 1 : Nat) : Int) := by omega
    rw [e, Int.ofNat_tdiv]
  have hq2 : Int.tdiv ((f : Int) + n) g = (((f + n) / g : Nat) : Int) := by
    have e : (f : Int) + n = ((f + n : Nat) : Int) := by omega
    rw [e, Int.ofNat_tdiv]
  have Hfill := hidIt (fill_clear (f := f) (n := n) hg.1 hlen hin)
  have hd1 := Nat.div_le_self (f + g - 1) g
  have hd2 := Nat.div_le_self (f + n) g
  have hend : (f + n) / g ≤ l.length := by
    rw [hlen]
    exact Nat.div_le_div_right (by omega)
  generalize (f + n) / g = E at *
  generalize (f + g - 1) / g = A at *
  have hw1 : IntKind.i64.wrap ((f : Int) + g) = (f : Int) + g := IntWalk.i64_in _ (by omega)
  have hw2 : IntKind.i64.wrap ((f : Int) + g - 1) = (f : Int) + g - 1 := IntWalk.i64_in _ (by omega)
  have hwE : IntKind.i64.wrap (E : Int) = (E : Int) := IntWalk.i64_in _ (by omega)
  have hwA : IntKind.i64.wrap (A : Int) = (A : Int) := IntWalk.i64_in _ (by omega)
  have B3 := (Blk.new w [.pointer (some ⟨tb, 0, none⟩)] 49)
  have c3 := B3.cell
  have hlt := h.lt.1
  go_enter Tryz.func80, Tryz.ntmps80
  go_wp2_with fail
  · have h0 : f + n = S := nat_beq (by assumption)
    refine (granules_calls tb mb S g l _ (h.fr0 ((Fr.refl _ _).alloc _))).mono ?_
    rintro r w1 ⟨rfl, hf1⟩
    replace B3 := B3.fr0 hf1
    have c3 := B3.cell
    replace h := h.fr0 (((Fr.refl _ _).alloc _).trans0 hf1)
    have hF1 := ((Fr.refl [mb] w).alloc (.cells #[.pointer (some ⟨tb, 0, none⟩)] 49)).trans0 hf1
    have ct := h.blk.cell
    go_wp2_with fail
    refine wp_region_still_tail 17 follows (by as_aux_lemma => kernel_rfl) ?_
    simp only [List.take_succ_cons, List.take_zero, List.drop_succ_cons, List.drop_zero]
    change wpStill _ _ (World.drew _) _ _ _
    iterate 17 still_step
    refine wpStill_nil ?_
    change wpList _ _ _ _ _ (World.drew _)
    go_wp2_with fail
    refine (each_clear tb mb S g w.heap.size l f n A (gran S g : Nat) _ (h.fr0 ((Fr.refl _ _).drew)) (B3.drew) hins (by omega) (by omega)).mono ?_
    rintro r w2 ⟨rfl, hB, hf⟩
    go_wp2
    go_ret
    exact ⟨rfl, by rw [← Hfill.out, if_pos h0]; simpa using hB, hF1.drew.trans' hf⟩
  · have h0 : ¬ f + n = S := nat_bne (by assumption)
    refine wp_region_still_tail 17 follows (by as_aux_lemma => kernel_rfl) ?_
    simp only [List.take_succ_cons, List.take_zero, List.drop_succ_cons, List.drop_zero]
    change wpStill _ _ (World.drew _) _ _ _
    iterate 17 still_step
    refine wpStill_nil ?_
    change wpList _ _ _ _ _ (World.drew _)
    go_wp2_with fail
    refine (each_clear tb mb S g w.heap.size l f n A E _ (h.fr0 (((Fr.refl _ _).alloc _).drew)) (B3.drew) hins (by omega) (by omega)).mono ?_
    rintro r w2 ⟨rfl, hB, hf⟩
    go_wp2
    go_ret
    exact ⟨rfl, by rw [← Hfill.out]; simpa [h0] using hB, (((Fr.refl [mb] w).alloc _).drew).trans' hf⟩
end Go.Proofs.YtiifmakhfpllnaaGreat

namespace Go.Proofs.YtiifmakhfpllnaaGreat
open Go.RowKit Go.Maps
attribute [local go_sem] mapAt_alloc mapAt_setCell mapAt_drew mapAt_drewN

set_option maxRecDepth 100000 in
set_option maxHeartbeats 1600000 in
theorem Set_no (tb mb S g : Nat) (l : List Bool) (f n : Int) (w : World) (h : BitW w tb mb S g l) (fw : -9223372036854775808 ≤ n ∧ n ≤ 9223372036854775807) (hin : ¬ insideB S f n) :
    Calls Tryz.prog 43 #[.pointer (some ⟨tb, 0, none⟩), .int .i64 f, .int .i64 n] w
      fun r w' => r = .returned (.int .i64 1) ∧ Fr [] w w' := by
  have ct := h.blk.cell
  have hg := h.grain
  have hg0 : (0 : Int) < g := by omega
  have hgn : ¬ (g : Int) = 0 := by omega
  have hgz : ¬ g = 0 := by omega
  have B3 := (Blk.new w [.pointer (some ⟨tb, 0, none⟩)] 49)
  have c3 := B3.cell
  have hlt := h.lt.1
  by_cases h0 : n = 0
  · subst h0
    go_enter Tryz.func43, Tryz.ntmps43
    go_wp2_with fail
    go_quiet (fail)
    go_wp2_with fail
    refine wp_region_still_tail 11 follows (by as_aux_lemma => kernel_rfl) ?_
    simp only [List.take_succ_cons, List.take_zero, List.drop_succ_cons, List.drop_zero]
    change wpStill _ _ (World.drew _) _ _ _
    iterate 11 still_step
    refine wpStill_nil ?_
    change wpList _ _ _ _ _ (World.drew _)
    go_wp2_with fail
    refine (each_no tb mb S g l f 0 _ _ _ _ (h.fr0 (((Fr.refl _ _).alloc _).drewN _)) fw hin).mono ?_
    rintro r w2 ⟨rfl, rfl⟩
    go_wp2
    go_ret
    exact ⟨rfl, (((Fr.refl [] w).alloc _).drewN _)⟩
  · go_enter Tryz.func43, Tryz.ntmps43
    go_wp2_with fail
    go_quiet (fail)
    go_wp2_with fail
    refine wp_region_still_tail 11 follows (by as_aux_lemma => kernel_rfl) ?_
    simp only [List.take_succ_cons, List.take_zero, List.drop_succ_cons, List.drop_zero]
    change wpStill _ _ (World.drew _) _ _ _
    iterate 11 still_step
    refine wpStill_nil ?_
    change wpList _ _ _ _ _ (World.drew _)
    go_wp2_with fail
    refine (each_no tb mb S g l f n _ _ _ _ (h.fr0 (((Fr.refl _ _).alloc _).drewN _)) fw hin).mono ?_
    rintro r w2 ⟨rfl, rfl⟩
    go_wp2
    go_ret
    exact ⟨rfl, (((Fr.refl [] w).alloc _).drewN _)⟩
set_option maxRecDepth 100000 in
set_option maxHeartbeats 1600000 in
theorem Clear_no (tb mb S g : Nat) (l : List Bool) (f n : Int) (w : World) (h : BitW w tb mb S g l) (fw : -9223372036854775808 ≤ n ∧ n ≤ 9223372036854775807) (hin : ¬ insideB S f n) :
    Calls Tryz.prog 80 #[.pointer (some ⟨tb, 0, none⟩), .int .i64 f, .int .i64 n] w
      fun r w' => r = .returned (.int .i64 1) ∧ Fr [] w w' := by
  have ct := h.blk.cell
  have hg := h.grain
  have hg0 : (0 : Int) < g := by omega
  have hgn : ¬ (g : Int) = 0 := by omega
  have hgz : ¬ g = 0 := by omega
  have B3 := (Blk.new w [.pointer (some ⟨tb, 0, none⟩)] 49)
  have c3 := B3.cell
  have hlt := h.lt.1
  go_enter Tryz.func80, Tryz.ntmps80
  go_wp2_with fail
  · refine (granules_calls tb mb S g l _ (h.fr0 ((Fr.refl _ _).alloc _))).mono ?_
    rintro r w1 ⟨rfl, hf1⟩
    replace B3 := B3.fr0 hf1
    have c3 := B3.cell
    replace h := h.fr0 (((Fr.refl _ _).alloc _).trans0 hf1)
    have hF1 := ((Fr.refl [] w).alloc (.cells #[.pointer (some ⟨tb, 0, none⟩)] 49)).trans0 hf1
    have ct := h.blk.cell
    go_wp2_with fail
    refine wp_region_still_tail 17 follows (by as_aux_lemma => kernel_rfl) ?_
    simp only [List.take_succ_cons, List.take_zero, List.drop_succ_cons, List.drop_zero]
    change wpStill _ _ (World.drew _) _ _ _
    iterate 17 still_step
    refine wpStill_nil ?_
    change wpList _ _ _ _ _ (World.drew _)
    go_wp2_with fail
    refine (each_no tb mb S g l f n _ _ _ _ (h.fr0 ((Fr.refl _ _).drew)) fw hin).mono ?_
    rintro r w2 ⟨rfl, rfl⟩
    go_wp2
    go_ret
    exact ⟨rfl, hF1.drew⟩
  · skip
    refine wp_region_still_tail 17 follows (by as_aux_lemma => kernel_rfl) ?_
    simp only [List.take_succ_cons, List.take_zero, List.drop_succ_cons, List.drop_zero]
    change wpStill _ _ (World.drew _) _ _ _
    iterate 17 still_step
    refine wpStill_nil ?_
    change wpList _ _ _ _ _ (World.drew _)
    go_wp2_with fail
    refine (each_no tb mb S g l f n _ _ _ _ (h.fr0 (((Fr.refl _ _).alloc _).drew)) fw hin).mono ?_
    rintro r w2 ⟨rfl, rfl⟩
    go_wp2
    go_ret
    exact ⟨rfl, (((Fr.refl [] w).alloc _).drew)⟩
end Go.Proofs.YtiifmakhfpllnaaGreat

namespace Go.Proofs.YtiifmakhfpllnaaGreat
open Go.RowKit Go.Maps
attribute [local go_sem] mapAt_alloc mapAt_setCell mapAt_drew mapAt_drewN

def pow2 (g : Int) : Bool := decide (g = 1) || decide (g = 2) || decide (g = 4) || decide (g = 8) || decide (g = 16) || decide (g = 32) || decide (g = 64)
theorem pow2_and {g : Int} (h1 : 1 ≤ g) (h2 : g ≤ 64) : (bits BinOp.and IntKind.i64 g (g - 1) != 0) = !pow2 g := by
  obtain ⟨n, rfl⟩ := Int.eq_ofNat_of_zero_le (by omega : 0 ≤ g)
  have hn : n < 65 := by omega
  have h0 : 1 ≤ n := by omega
  have key : ∀ m : Fin 65, 1 ≤ m.val → (bits BinOp.and IntKind.i64 (m.val : Int) ((m.val : Int) - 1) != 0) = !pow2 (m.val : Int) := by decide
  exact key ⟨n, hn⟩ h0
theorem pow2_le {g : Int} (h : pow2 g = true) : 1 ≤ g ∧ g ≤ 64 := by
  simp [pow2] at h
  omega
def okNew (s g : Int) : Bool := okSec s && pow2 g
theorem bitM_empty (n : Nat) : bitM (List.replicate n false) = fun _ => none := by
  funext x
  cases x with
  | int q k =>
    cases q with
    | i64 =>
      rw [bitM_int, if_neg]
      rintro ⟨_, h⟩
      rw [List.getD_eq_getElem?_getD, List.getElem?_replicate] at h
      split at h <;> simp at h
    | _ => rfl
  | _ => rfl
theorem BitW_new (S g : Nat) (w : World) (h : S ≤ 4096) (hg : 0 < g ∧ g ≤ 64) : BitW ((w.alloc (.map #[] 0)).alloc (.cells #[.int .i64 S, .int .i64 g, .map (some w.heap.size)] 113)) (w.heap.size + 1) w.heap.size S g (List.replicate (gran S g) false) := by
  refine ⟨?_, h, hg, by simp, #[], 0, ?_, ?_⟩
  · have := Blk.new (w.alloc (.map #[] 0)) [.int .i64 S, .int .i64 g, .map (some w.heap.size)] 113
    rw [World.size_alloc] at this
    exact this
  · rw [mapAt_some, Below.heap_alloc _ _ _ (by simp)]
    exact heap_alloc_new w _
  · rw [bitM_empty]; exact IsM.empty
set_option maxRecDepth 100000 in
set_option maxHeartbeats 1600000 in
theorem New_no (s g : Int) (w : World) (h : okNew s g = false) : Calls Tryz.prog 16 #[.int .i64 s, .int .i64 g] w
      fun r w' => r = .returned (.tuple #[.pointer none, .int .i64 1]) ∧ w = w' := by
  by_cases hs : okSec s = true
  · have hp : pow2 g = false := by simpa [okNew, hs] using h
    by_cases h1 : g < 1
    · go_enter Tryz.func16, Tryz.ntmps16
      go_wp2_with fail
      refine (right_calls _ _).mono ?_
      rintro e w1 ⟨rfl, rfl⟩
      rw [hs]
      go_wp2
      go_ret2
      exact ⟨rfl, rfl⟩
    · by_cases h2 : 64 < g
      · have h1' : 1 ≤ g := by omega
        clear h1
        go_enter Tryz.func16, Tryz.ntmps16
        go_wp2_with fail
        refine (right_calls _ _).mono ?_
        rintro e w1 ⟨rfl, rfl⟩
        rw [hs]
        go_wp2
        go_ret2
        exact ⟨rfl, rfl⟩
      · have hb := pow2_and (by omega : 1 ≤ g) (by omega : g ≤ 64)
        rw [hp] at hb
        have h1' : 1 ≤ g := by omega
        have h2' : g ≤ 64 := by omega
        clear h1 h2
        go_enter Tryz.func16, Tryz.ntmps16
        go_wp2_with fail
        refine (right_calls _ _).mono ?_
        rintro e w1 ⟨rfl, rfl⟩
        rw [hs]
        go_wp2
        go_ret2
        exact ⟨rfl, rfl⟩
  · have hs' : okSec s = false := by simpa using hs
    go_enter Tryz.func16, Tryz.ntmps16
    go_wp2_with fail
    refine (right_calls _ _).mono ?_
    rintro e w1 ⟨rfl, rfl⟩
    rw [hs']
    go_wp2
    go_ret2
    exact ⟨rfl, rfl⟩
set_option maxRecDepth 100000 in
set_option maxHeartbeats 1600000 in
theorem New_yes (s g : Int) (w : World) (h : okNew s g = true) : Calls Tryz.prog 16 #[.int .i64 s, .int .i64 g] w
      fun r w' => ∃ tb mb, r = .returned (.tuple #[.pointer (some ⟨tb, 0, none⟩), .int .i64 0]) ∧ w.heap.size ≤ tb ∧ w.heap.size ≤ mb ∧ BitW w' tb mb s.toNat g.toNat (List.replicate (gran s.toNat g.toNat) false) ∧ Fr [] w w' := by
  have hs : okSec s = true := by simp [okNew] at h; exact h.1
  have hp : pow2 g = true := by simp [okNew] at h; exact h.2
  have hg := pow2_le hp
  have hb := pow2_and hg.1 hg.2
  rw [hp] at hb
  have h1' := hg.1
  have h2' := hg.2
  have hmm := @run_makeMap Tryz.prog
  have hs1 : 0 ≤ s ∧ s ≤ 4096 := by simpa [okSec] using hs
  have hW := hidIt (BitW_new s.toNat g.toNat w (by omega) (by omega))
  have e1 : ((s.toNat : Nat) : Int) = s := by omega
  have e2 : ((g.toNat : Nat) : Int) = g := by omega
  rw [e1, e2] at hW
  generalize hS : s.toNat = S at *
  generalize hG : g.toNat = G at *
  clear e1 e2 hS hG
  go_enter Tryz.func16, Tryz.ntmps16
  go_wp2_with fail
  refine (right_calls _ _).mono ?_
  rintro e w1 ⟨rfl, rfl⟩
  rw [hs]
  go_wp2
  go_ret2
  exact ⟨w.heap.size + 1, w.heap.size, rfl, by omega, Nat.le_refl _, hW.out, ((Fr.refl _ _).alloc _).alloc _⟩
/-- how many granules are dirty -/
def cnt (l : List Bool) : Nat := ((List.range l.length).filter fun k => l.getD k false).length
theorem cnt_size {es : Array MapEntry} {clock : Nat} {l : List Bool} (hi : IsM Tryz.prog 3 es clock (bitM l)) : es.size = cnt l := by
  have := hi.size (ks := ((List.range l.length).filter fun k => l.getD k false).map fun k : Nat => Value.int .i64 (k : Int)) ?_ ?_
  · rw [this, List.length_map]; rfl
  · rw [List.pairwise_map]
    exact (List.Pairwise.filter _ List.nodup_range).imp (fun {a b} hab h => hab (by have := (Value.int.inj h).2; omega))
  · intro x
    simp only [List.mem_map, List.mem_filter, List.mem_range]
    constructor
    · rintro ⟨k, ⟨_, h⟩, rfl⟩
      rw [bitM_int, if_pos ⟨by omega, by simpa using h⟩]
      rfl
    · intro h
      cases x with
      | int q k =>
        cases q with
        | i64 =>
          rw [bitM_int] at h
          by_cases hc : 0 ≤ k ∧ l.getD k.toNat false = true
          · refine ⟨k.toNat, ⟨?_, hc.2⟩, by rw [Int.toNat_of_nonneg hc.1]⟩
            have := hc.2
            rw [List.getD_eq_getElem?_getD] at this
            by_cases hl : k.toNat < l.length
            · exact hl
            · rw [List.getElem?_eq_none (by omega)] at this
              cases this
          · rw [if_neg hc] at h
            cases h
        | _ => cases h
      | _ => cases h
theorem cnt_le (l : List Bool) : cnt l ≤ l.length := by
  unfold cnt
  have := List.length_filter_le (fun k => l.getD k false) (List.range l.length)
  simpa using this
theorem Count_calls (tb mb S g : Nat) (l : List Bool) (w : World) (h : BitW w tb mb S g l) : Calls Tryz.prog 21 #[.pointer (some ⟨tb, 0, none⟩)] w fun e w' => e = .returned (.int .i64 (cnt l)) ∧ w = w' := by
  have c := h.blk.cell
  obtain ⟨es, clock, hm, hi⟩ := h.map
  have hlen := run_len_map (P := Tryz.prog) (T := 111) (ty := 3) (E := 3) (es := es) (clock := clock) Tryz.underlying111 w hm
  rw [cnt_size hi] at hlen
  go_enter Tryz.func21, Tryz.ntmps21
  go_wp2
  go_ret
  exact ⟨rfl, rfl⟩
set_option maxRecDepth 100000 in
theorem granulesB_calls (tb S g : Nat) (u : Value) (w : World) (B : Blk w tb [.int .i64 S, .int .i64 g, u] 113) (hs : S ≤ 4096) (hg : 0 < g ∧ g ≤ 64) : Calls Tryz.prog 67 #[.pointer (some ⟨tb, 0, none⟩)] w fun e w' => e = .returned (.int .i64 (gran S g)) ∧ Fr [] w w' := by
  have c := B.cell
  go_enter Tryz.func67, Tryz.ntmps67
  have hg0 : (0 : Int) < g := by omega
  have hgn : ¬ (g : Int) = 0 := by omega
  have hq : Int.tdiv ((S : Int) + g - 1) g = (gran S g : Nat) := by
    unfold gran
    have e : (S : Int) + g - 1 = ((S + g - 1 : Nat) : Int) := by omega
    rw [e, Int.ofNat_tdiv]
  have hle := gran_le hs hg.1
  go_wp2_with fail
  go_quiet (fail)
  go_wp2
  go_ret
  exact ⟨rfl, (Fr.refl _ _).drewN _⟩
end Go.Proofs.YtiifmakhfpllnaaGreat
