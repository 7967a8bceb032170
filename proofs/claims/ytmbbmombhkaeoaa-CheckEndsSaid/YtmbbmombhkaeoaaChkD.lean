/-
  few, own, plain, same: the statements' own helpers.
-/
import Derived.Test.YtmbbmombhkaeoaaChkC
import Derived.StillTailTactics
namespace Go.Proofs.Ytmbbmombhkaeoaa
open Go.RowKit
attribute [local go_sem high] equalSlot0 equalSlotR0

/-- how many slots, and rows -/
def tot (ls : List (List Slt)) : Nat := (ls.map fun l => l.length + 1).sum
theorem tot_take_succ {ls : List (List Slt)} {k : Nat} (h : k < ls.length) : tot (ls.take (k + 1)) = tot (ls.take k) + ((ls.getD k []).length + 1) := by
  have hg : ls[k] = ls.getD k [] := by rw [List.getD_eq_getElem?_getD, List.getElem?_eq_getElem h]; rfl
  unfold tot
  rw [List.take_succ_eq_append_getElem h, hg, List.map_append, List.sum_append]
  simp
theorem tot_take_le (ls : List (List Slt)) (k : Nat) : tot (ls.take k) ≤ tot ls := by
  conv => rhs; rw [← List.take_append_drop k ls]
  unfold tot
  rw [List.map_append, List.sum_append]
  omega
theorem tot_at {ls : List (List Slt)} {k : Nat} (h : k < ls.length) : (ls.getD k []).length + 1 ≤ tot ls := by
  have := tot_take_succ h
  have := tot_take_le ls (k + 1)
  omega
theorem tot_len : ∀ ls : List (List Slt), ls.length ≤ tot ls
  | [] => Nat.zero_le _
  | l :: ls => by
    have := tot_len ls
    simp only [tot, List.map_cons, List.sum_cons, List.length_cons] at this ⊢
    omega
def fewB (n : List Int) (ls : List (List Slt)) : Bool := decide (n.length ≤ 60) && decide (tot ls ≤ 200)
set_option maxRecDepth 100000 in
set_option maxHeartbeats 800000 in
theorem few_calls (v u : Value) (n : List Int) (ls : List (List Slt)) (w : World) (hv : SlI w v n) (hu : SlR w u ls) (ht : tot ls ≤ 1048576) :
    Calls Try.prog 8 #[v, u] w fun e w' => e = .returned (.bool (fewB n ls)) ∧ Fr [] w w' := by
  obtain ⟨a, cap, rfl, hlc, hcm, _⟩ := hv.open
  obtain ⟨a', cap', rfl, hlc', hcm'⟩ := hu.open
  unfold maxLen at hcm hcm'
  have htl := tot_len ls
  have Hd : Hid (fewB n ls = (decide (n.length ≤ 60) && decide (tot ls ≤ 200))) := hidIt rfl
  go_enter Try.func8, Try.ntmps8
  go_wp2
  go_loopw [5, 10] (fun s i wr => ∃ k : Nat, k ≤ ls.length ∧ s = .int .i64 (tot (ls.take k) : Nat) ∧ i = .int .i64 k ∧ Fr [] w wr) (fun _ i _ => ls.length - (intOf i).toNat)
  case atStart => exact ⟨0, Nat.zero_le _, rfl, rfl, Fr.refl _ _⟩
  case round =>
    obtain ⟨k, hk, rfl, rfl, hF⟩ := hrel
    by_cases hlt : k < ls.length
    · obtain ⟨b, off, a2, cap2, rfl, hb, c0, hs, hm2⟩ := SlR.at (hu.fr0 hF) hlt
      have Hst := hidIt (tot_take_succ hlt)
      have h1 := tot_take_le ls (k + 1)
      rw [Hst.out] at h1
      generalize tot (ls.take k) = T at *
      generalize (ls.getD k []).length = m at *
      clear hs
      go_wp2
      go_roundw
      case rel => exact ⟨k + 1, by omega, by rw [Hst.out]; go_num, by go_num, hF⟩
      case measure => simp [intOf]; omega
    · have Hk : Hid (k = ls.length) := hidIt (by omega)
      have Ht : Hid (ls.take k = ls) := hidIt (List.take_of_length_le (by omega))
      rw [Ht.out]
      generalize tot ls = T at *
      by_cases hn : n.length ≤ 60
      · have hn' : (n.length : Int) ≤ 60 := by omega
        go_wp2
        go_ret
        rw [Hd.out]
        exact ⟨ret_bool (by simp [hn]; omega), hF⟩
      · have hn' : ¬ (n.length : Int) ≤ 60 := by omega
        go_wp2
        go_ret
        rw [Hd.out]
        exact ⟨ret_bool (by simp [hn]), hF⟩
theorem infoSlot : (Try.prog.info? 45).map (fun i => (i.zero, i.size, i.bytes)) = some (some (.agg #[.int .i64 0, .int .i64 0, .bool false]), 3, 24) := by kernel_rfl
theorem infoSlotR : (Try.prog.info? 44).map (fun i => (i.zero, i.size, i.bytes)) = some (some (.agg #[.int .i64 0, .int .i64 0, .bool false]), 3, 24) := by kernel_rfl
theorem infoRow : (Try.prog.info? 41).map (fun i => (i.zero, i.size, i.bytes)) = some (some (.slice none 0 0), 1, 24) := by kernel_rfl
theorem infoRowR : (Try.prog.info? 42).map (fun i => (i.zero, i.size, i.bytes)) = some (some (.slice none 0 0), 1, 24) := by kernel_rfl
theorem take_flat_succ {l : List Slt} {k : Nat} (h : k < l.length) : (l.take (k + 1)).flatMap slotC = (l.take k).flatMap slotC ++ slotC (l.getD k zS) := by
  have hg : l[k] = l.getD k zS := by rw [List.getD_eq_getElem?_getD, List.getElem?_eq_getElem h]; rfl
  rw [List.take_succ_eq_append_getElem h, hg, List.flatMap_append]
  simp
set_option maxRecDepth 100000 in
set_option maxHeartbeats 1600000 in
theorem own_calls (u : Value) (ls : List (List Slt)) (w : World) (hu : SlR w u ls) (ht : tot ls ≤ 1048576) :
    Calls Try.prog 11 #[u] w fun e w' => ∃ v, e = .returned v ∧ SlR w' v ls ∧ Fr [] w w' := by
  obtain ⟨a', cap', rfl, hlc', hcm'⟩ := hu.open
  unfold maxLen at hcm'
  have htl := tot_len ls
  go_enter Try.func11, Try.ntmps11
  go_wp2
  go_loopw [3, 11] (fun out i wr => ∃ k : Nat, k ≤ ls.length ∧ i = .int .i64 k ∧ MadeR wr w.heap.size 41 out (ls.take k) ∧ Fr [] w wr) (fun _ i _ => ls.length - (intOf i).toNat)
  case atStart => exact ⟨0, Nat.zero_le _, rfl, MadeR.nil _ _ _, Fr.refl _ _⟩
  case round =>
    obtain ⟨k, hk, rfl, hM, hF⟩ := hrel
    by_cases hlt : k < ls.length
    · obtain ⟨b, off, a2, cap2, rfl, hb, c0, hs, hm2⟩ := SlR.at (hu.fr0 hF) hlt
      have Hst : Hid (ls.take (k + 1) = ls.take k ++ [ls.getD k []]) := hidIt (by
        have hg : ls[k] = ls.getD k [] := by rw [List.getD_eq_getElem?_getD, List.getElem?_eq_getElem hlt]; rfl
        rw [List.take_succ_eq_append_getElem hlt, hg])
      have hml := tot_at hlt
      have hkl : (ls.take k).length = k := by simp; omega
      generalize ls.take k = done at *
      generalize ls.getD k [] = l at *
      generalize wr = wo at *
      go_wp2
      go_loopw [6, 17] (fun x j w2 => ∃ m : Nat, m ≤ l.length ∧ j = .int .i64 m ∧ w2.ownsRow wo.heap.size 45 3 x m ((l.take m).flatMap slotC) ∧ Fr [] wo w2) (fun _ j _ => l.length - (intOf j).toNat)
      case atStart => exact ⟨0, Nat.zero_le _, rfl, World.ownsRow_nil _ _ _ _, Fr.refl _ _⟩
      case round =>
        obtain ⟨m, hm, rfl, hown, hF2⟩ := hrel
        by_cases hlm : m < l.length
        · obtain ⟨b3, off3, rfl, hb3, d0, d1, d2⟩ := SlS.at (hs.fr0 hF2) hlm
          have Hsm := hidIt (take_flat_succ hlm)
          have hnb := own_base hown
          have hsz := hF2.size
          generalize l.getD m zS = s at *
          go_wp2_with (at_builtin; refine wpList_append1 41 45 _ 3 24 Try.underlying41 infoSlot rfl (by decide) (by decide) rfl _ _ rfl wo.heap.size _ _ _ rfl ((hown.alloc _).alloc _) (slotC s) rfl slot_one (wr.heap.size + 1) rfl (Blk.new' (by simp) _ _) (by omega) (by simp; omega) ?_; intro v' w3 hown2 hgrow hloc)
          go_roundw
          case rel => exact ⟨m + 1, by omega, by go_num, by rw [Hsm.out]; exact hown2, ((hF2.alloc _).alloc _).grown hgrow (fun x hx => .inr (hnb x hx))⟩
          case measure => simp [intOf]; omega
        · have hml2 : m = l.length := by omega
          subst hml2
          rw [List.take_length] at hown
          have hM2 := hM.fr hF2 (by simp)
          have hF3 := hF.trans0 hF2
          have hsl : SlS wr u6 l := SlF.of_owns hown
          have hxb : ∀ b, u6.ownBlock = some b → b < wr.heap.size ∧ u3.ownBlock ≠ some b := fun b hb => ⟨(hown.lt b hb).2, fun h3 => by have := (hM.lt b h3).2; have := (hown.lt b hb).1; omega⟩
          have hub := fun x hx => (hM.lt x hx).1
          have hsz := hF3.size
          obtain ⟨ax, capx, rfl, _, _, _⟩ := hsl.open
          obtain ⟨vs, hV⟩ := hM2
          have hkl' : done.length ≤ 1048576 := by omega
          clear hown hM
          go_wp2_with (at_builtin; refine wpList_append1 29 41 (.slice none 0 0) 1 24 Try.underlying29 infoRow rfl (by decide) (by decide) rfl _ _ rfl w.heap.size _ _ vs rfl (hV.1.alloc _) [.slice ax l.length capx] rfl (by intro u hu; simp at hu; subst hu; rfl) wr.heap.size rfl (Blk.new _ _ _) (by omega) (by simp; omega) ?_; intro v' w3 hown3 hgrow hloc)
          go_roundw
          case rel => exact ⟨k + 1, by omega, by go_num, by rw [Hst.out]; exact (hV.fr ((Fr.refl [] _).alloc _) (by simp)).snoc hown3 hgrow hloc (hsl.fr0 ((Fr.refl [] _).alloc _)) (fun b hb => ⟨by have := (hxb b hb).1; simp; omega, (hxb b hb).2⟩), (hF3.alloc _).grown hgrow (fun x hx => .inr (hub x hx))⟩
          case measure => simp [intOf]; omega
    · have hkl : k = ls.length := by omega
      have Ht : Hid (ls.take k = ls) := hidIt (List.take_of_length_le (by omega))
      rw [Ht.out] at hM
      go_wp2
      go_ret
      exact ⟨u3, rfl, hM.slr, hF⟩
set_option maxRecDepth 100000 in
set_option maxHeartbeats 1600000 in
theorem plain_calls (u : Value) (ls : List (List Slt)) (w : World) (hu : SlR w u ls) (ht : tot ls ≤ 1048576) :
    Calls Try.prog 18 #[u] w fun e w' => ∃ v, e = .returned v ∧ SlR w' v ls ∧ Fr [] w w' := by
  obtain ⟨a', cap', rfl, hlc', hcm'⟩ := hu.open
  unfold maxLen at hcm'
  have htl := tot_len ls
  go_enter Try.func18, Try.ntmps18
  go_wp2
  go_loopw [3, 11] (fun out i wr => ∃ k : Nat, k ≤ ls.length ∧ i = .int .i64 k ∧ MadeR wr w.heap.size 42 out (ls.take k) ∧ Fr [] w wr) (fun _ i _ => ls.length - (intOf i).toNat)
  case atStart => exact ⟨0, Nat.zero_le _, rfl, MadeR.nil _ _ _, Fr.refl _ _⟩
  case round =>
    obtain ⟨k, hk, rfl, hM, hF⟩ := hrel
    by_cases hlt : k < ls.length
    · obtain ⟨b, off, a2, cap2, rfl, hb, c0, hs, hm2⟩ := SlR.at (hu.fr0 hF) hlt
      have Hst : Hid (ls.take (k + 1) = ls.take k ++ [ls.getD k []]) := hidIt (by
        have hg : ls[k] = ls.getD k [] := by rw [List.getD_eq_getElem?_getD, List.getElem?_eq_getElem hlt]; rfl
        rw [List.take_succ_eq_append_getElem hlt, hg])
      have hml := tot_at hlt
      have hkl : (ls.take k).length = k := by simp; omega
      generalize ls.take k = done at *
      generalize ls.getD k [] = l at *
      generalize wr = wo at *
      go_wp2
      go_loopw [6, 17] (fun x j w2 => ∃ m : Nat, m ≤ l.length ∧ j = .int .i64 m ∧ w2.ownsRow wo.heap.size 44 3 x m ((l.take m).flatMap slotC) ∧ Fr [] wo w2) (fun _ j _ => l.length - (intOf j).toNat)
      case atStart => exact ⟨0, Nat.zero_le _, rfl, World.ownsRow_nil _ _ _ _, Fr.refl _ _⟩
      case round =>
        obtain ⟨m, hm, rfl, hown, hF2⟩ := hrel
        by_cases hlm : m < l.length
        · obtain ⟨b3, off3, rfl, hb3, d0, d1, d2⟩ := SlS.at (hs.fr0 hF2) hlm
          have Hsm := hidIt (take_flat_succ hlm)
          have hnb := own_base hown
          have hsz := hF2.size
          generalize l.getD m zS = s at *
          go_wp2_with (at_builtin; refine wpList_append1 42 44 _ 3 24 Try.underlying42 infoSlotR rfl (by decide) (by decide) rfl _ _ rfl wo.heap.size _ _ _ rfl ((hown.alloc _).alloc _) (slotC s) rfl slot_one (wr.heap.size + 1) rfl (Blk.new' (by simp) _ _) (by omega) (by simp; omega) ?_; intro v' w3 hown2 hgrow hloc)
          go_roundw
          case rel => exact ⟨m + 1, by omega, by go_num, by rw [Hsm.out]; exact hown2, ((hF2.alloc _).alloc _).grown hgrow (fun x hx => .inr (hnb x hx))⟩
          case measure => simp [intOf]; omega
        · have hml2 : m = l.length := by omega
          subst hml2
          rw [List.take_length] at hown
          have hM2 := hM.fr hF2 (by simp)
          have hF3 := hF.trans0 hF2
          have hsl : SlS wr u6 l := SlF.of_owns hown
          have hxb : ∀ b, u6.ownBlock = some b → b < wr.heap.size ∧ u3.ownBlock ≠ some b := fun b hb => ⟨(hown.lt b hb).2, fun h3 => by have := (hM.lt b h3).2; have := (hown.lt b hb).1; omega⟩
          have hub := fun x hx => (hM.lt x hx).1
          have hsz := hF3.size
          obtain ⟨ax, capx, rfl, _, _, _⟩ := hsl.open
          obtain ⟨vs, hV⟩ := hM2
          have hkl' : done.length ≤ 1048576 := by omega
          clear hown hM
          go_wp2_with (at_builtin; refine wpList_append1 23 42 (.slice none 0 0) 1 24 Try.underlying23 infoRowR rfl (by decide) (by decide) rfl _ _ rfl w.heap.size _ _ vs rfl (hV.1.alloc _) [.slice ax l.length capx] rfl (by intro u hu; simp at hu; subst hu; rfl) wr.heap.size rfl (Blk.new _ _ _) (by omega) (by simp; omega) ?_; intro v' w3 hown3 hgrow hloc)
          go_roundw
          case rel => exact ⟨k + 1, by omega, by go_num, by rw [Hst.out]; exact (hV.fr ((Fr.refl [] _).alloc _) (by simp)).snoc hown3 hgrow hloc (hsl.fr0 ((Fr.refl [] _).alloc _)) (fun b hb => ⟨by have := (hxb b hb).1; simp; omega, (hxb b hb).2⟩), (hF3.alloc _).grown hgrow (fun x hx => .inr (hub x hx))⟩
          case measure => simp [intOf]; omega
    · have hkl : k = ls.length := by omega
      have Ht : Hid (ls.take k = ls) := hidIt (List.take_of_length_le (by omega))
      rw [Ht.out] at hM
      go_wp2
      go_ret
      exact ⟨u3, rfl, hM.slr, hF⟩
set_option maxRecDepth 100000 in
set_option maxHeartbeats 800000 in
theorem same_calls (v u : Value) (ls : List (List Slt)) (w : World) (hv : SlR w v ls) (hu : SlR w u ls) : Calls Try.prog 17 #[v, u] w fun e w' => e = .returned (.bool true) ∧ Fr [] w w' := by
  obtain ⟨a, cap, rfl, hlc, hcm⟩ := hv.open
  obtain ⟨a', cap', rfl, _, _⟩ := hu.open
  unfold maxLen at hcm
  go_enter Try.func17, Try.ntmps17
  go_wp2
  go_loopw [13] (fun i wr => ∃ k : Nat, k ≤ ls.length ∧ i = .int .i64 k ∧ Fr [] w wr) (fun i _ => ls.length - (intOf i).toNat)
  case atStart => exact ⟨0, Nat.zero_le _, rfl, Fr.refl _ _⟩
  case round =>
    obtain ⟨k, hk, rfl, hF⟩ := hrel
    by_cases hlt : k < ls.length
    · obtain ⟨b, off, a2, cap2, rfl, hb, c0, hs, hm⟩ := SlR.at (hv.fr0 hF) hlt
      obtain ⟨b', off', a2', cap2', rfl, hb', d0, hs', hm'⟩ := SlR.at (hu.fr0 hF) hlt
      generalize ls.getD k [] = l at *
      have hlt' : (k : Int) < (ls.length : Int) := by omega
      have hk0 : (0 : Int) ≤ k := by omega
      go_wp2_with fail
      refine wp_region_still_tail 8 follows (by as_aux_lemma => kernel_rfl) ?_
      simp only [List.take_succ_cons, List.take_zero, List.drop_succ_cons, List.drop_zero]
      change wpStill _ _ (World.drew _) _ _ _
      iterate 8 still_step
      refine wpStill_nil ?_
      change wpList _ _ _ _ _ (World.drew _)
      go_wp2_with fail
      refine (SameS_calls _ _ l _ (Sl.drew hs) (Sl.drew hs')).mono ?_
      rintro e w2 ⟨rfl, hf⟩
      go_wp2
      go_roundw
      case rel => exact ⟨k + 1, by omega, by go_num, hF.drew.trans0 hf⟩
      case measure => simp [intOf]; omega
    · go_wp2
      go_ret
      exact ⟨rfl, hF⟩
end Go.Proofs.Ytmbbmombhkaeoaa
