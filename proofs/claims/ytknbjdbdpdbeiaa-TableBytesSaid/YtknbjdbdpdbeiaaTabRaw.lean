/-
  A table as a row of groups by their numbers, whatever they are; table.Encode.
-/
import Derived.Test.YtknbjdbdpdbeiaaOctS
import Derived.Test.YtknbjdbdpdbeiaaTabE
import Derived.Test.YtknbjdbdpdbeiaaKeyL
import Derived.Test.YtknbjdbdpdbeiaaHeldL
namespace Go.Proofs.Ytknbjdbdpdbeiaa
open Go.RowKit Go.Maps
attribute [local go_sem] mapAt_alloc mapAt_setCell mapAt_drew mapAt_drewN
attribute [local go_sem high] equalSlot0 equalSlotR0 equalGroup guardGroup buildGroup zeroGroup gC_size grp_length zG_length

def rawM (ks : List Nat) (G : Nat → List Slt) : Value → Option Value
  | .int .i64 k => if 0 ≤ k ∧ k.toNat ∈ ks then some (.agg (gC (G k.toNat))) else none
  | _ => none
theorem rawM_int (ks : List Nat) (G : Nat → List Slt) (k : Int) : rawM ks G (.int .i64 k) = if 0 ≤ k ∧ k.toNat ∈ ks then some (.agg (gC (G k.toNat))) else none := rfl
/-- In block tb lies a table of n clusters, its map in block mb: the groups G of the numbers ks. -/
structure RawW (w : World) (tb mb n : Nat) (ks : List Nat) (G : Nat → List Slt) : Prop where
  blk : Blk w tb [.int .i64 n, .map (some mb)] 72
  size : n ≤ 256
  few : ks.length ≤ 1000
  lt : ks.Pairwise (· < ·)
  key : ∀ k ∈ ks, k < 65536
  grp : ∀ k ∈ ks, (G k).length = 16 ∧ ∀ s ∈ G k, rightS s = true
  map : ∃ es clock, mapAt w mb = some (es, clock) ∧ IsM Try.prog 3 es clock (rawM ks G)
theorem RawW.lts {w : World} {tb mb n : Nat} {ks : List Nat} {G : Nat → List Slt} (h : RawW w tb mb n ks G) : tb < w.heap.size ∧ mb < w.heap.size := by
  obtain ⟨es, c, hm, _⟩ := h.map
  exact ⟨h.blk.lt, mapAt_lt hm⟩
theorem RawW.fr {L : List Nat} {w w' : World} {tb mb n : Nat} {ks : List Nat} {G : Nat → List Slt} (h : RawW w tb mb n ks G) (hf : Fr L w w') (h1 : tb ∉ L) (h2 : mb ∉ L) : RawW w' tb mb n ks G := by
  obtain ⟨es, c, hm, hi⟩ := h.map
  exact ⟨h.blk.fr hf h1, h.size, h.few, h.lt, h.key, h.grp, es, c, mapAt_fr hm hf h2, hi⟩
theorem RawW.fr0 {w w' : World} {tb mb n : Nat} {ks : List Nat} {G : Nat → List Slt} (h : RawW w tb mb n ks G) (hf : Fr [] w w') : RawW w' tb mb n ks G := h.fr hf (by simp) (by simp)
theorem TabW.raw {w : World} {tb mb : Nat} {l : List Slt} (h : TabW w tb mb l) : RawW w tb mb l.length (keptL l) (grp l) := by
  obtain ⟨es, c, hm, hi⟩ := h.map
  refine ⟨h.blk, h.len, ?_, keptL_lt l, fun k hk => by have := (keptL_mem.1 hk).1; omega, fun k _ => ⟨grp_length l k, fun s hs => ?_⟩, es, c, hm, ?_⟩
  · have : (keptL l).length ≤ 16 := Nat.le_trans (List.length_filter_le _ _) (by simp)
    omega
  · obtain ⟨i, _, rfl⟩ := List.mem_map.1 hs
    exact right_getD h.right _
  · have e : rawM (keptL l) (grp l) = tabM l := by
      funext v
      cases v with
      | int q k =>
        cases q <;> try rfl
        rw [rawM_int, tabM_int]
        by_cases hc : 0 ≤ k ∧ k < 16 ∧ keptG l k.toNat = true
        · rw [if_pos hc, if_pos ⟨hc.1, keptL_mem.2 ⟨by omega, hc.2.2⟩⟩]
        · rw [if_neg hc, if_neg (fun hh => hc ⟨hh.1, by have := (keptL_mem.1 hh.2).1; omega, (keptL_mem.1 hh.2).2⟩)]
      | _ => rfl
    rw [e]
    exact hi
def keysI (ks : List Nat) : List Int := ks.map Int.ofNat
theorem keysI_lt {ks : List Nat} (h : ks.Pairwise (· < ·)) : (keysI ks).Pairwise (· < ·) := List.pairwise_map.2 (h.imp (fun {a b} h => by simp only [Int.ofNat_eq_natCast]; omega))
theorem keysI_mem {ks : List Nat} {G : Nat → List Slt} (k : Int) : k ∈ keysI ks ↔ (rawM ks G (.int .i64 k)).isSome = true := by
  unfold keysI
  rw [rawM_int, List.mem_map]
  constructor
  · rintro ⟨g, hg, rfl⟩
    simp only [Int.ofNat_eq_natCast, Int.toNat_natCast]
    rw [if_pos ⟨by omega, hg⟩]
    rfl
  · intro h
    by_cases hc : 0 ≤ k ∧ k.toNat ∈ ks
    · exact ⟨k.toNat, hc.2, by simp only [Int.ofNat_eq_natCast]; omega⟩
    · rw [if_neg hc] at h
      cases h
theorem raw_size {es : Array MapEntry} {clock : Nat} {ks : List Nat} {G : Nat → List Slt} (hlt : ks.Pairwise (· < ·)) (hi : IsM Try.prog 3 es clock (rawM ks G)) : es.size = ks.length := by
  have h3 := hi.size (ks := (keysI ks).map (Value.int .i64)) (List.pairwise_map.2 ((keysI_lt hlt).imp (fun {a b} h e => by cases e; omega))) (fun x => by
    rw [List.mem_map]
    constructor
    · rintro ⟨k, hk, rfl⟩
      exact (keysI_mem k).1 hk
    · intro h
      cases x with
      | int q k =>
        cases q <;> first | exact ⟨k, (keysI_mem k).2 h, rfl⟩ | (simp [rawM] at h)
      | _ => simp [rawM] at h)
  rw [h3, List.length_map, keysI, List.length_map]
theorem keyR {k : Int} (h0 : 0 ≤ k) (h1 : k < 65536) : keyOf Try.prog 3 (.int .i64 k) = some (.int .i64 k) := keyOf_int_mk Try.underlying3 (by simp [Lit.wf, IntKind.min, IntKind.max, IntKind.signed, IntKind.bits]; omega)
theorem keysI_getD {ks : List Nat} {j : Nat} (h : j < ks.length) : (keysI ks).getD j 0 = (ks.getD j 0 : Nat) := by
  unfold keysI
  rw [List.getD_eq_getElem?_getD, List.getElem?_map, List.getD_eq_getElem?_getD, List.getElem?_eq_getElem h]
  rfl
theorem getD_memN {ks : List Nat} {j : Nat} (h : j < ks.length) : ks.getD j 0 ∈ ks := by
  rw [List.getD_eq_getElem?_getD, List.getElem?_eq_getElem h]
  exact List.getElem_mem _
/-- a table's bytes -/
def grY (G : Nat → List Slt) (k : Nat) : List UInt8 := numL 2 k ++ (G k).flatMap slY
def encR (n : Nat) (ks : List Nat) (G : Nat → List Slt) : List UInt8 := numL 2 n ++ numL 2 ks.length ++ ks.flatMap (grY G)
theorem take_grY {ks : List Nat} {G : Nat → List Slt} {j : Nat} (h : j < ks.length) : (ks.take (j + 1)).flatMap (grY G) = (ks.take j).flatMap (grY G) ++ grY G (ks.getD j 0) := by
  have hg : ks[j] = ks.getD j 0 := by rw [List.getD_eq_getElem?_getD, List.getElem?_eq_getElem h]; rfl
  rw [List.take_succ_eq_append_getElem h, hg, List.flatMap_append]
  simp
theorem grY_len {G : Nat → List Slt} : ∀ {l : List Nat}, (∀ k ∈ l, (G k).length = 16) → (l.flatMap (grY G)).length = l.length * 66
  | [], _ => by simp
  | k :: l, h => by
    rw [List.flatMap_cons, List.length_append, grY_len (fun k hk => h k (List.mem_cons_of_mem _ hk)), List.length_cons, Nat.add_mul]
    have : (grY G k).length = 66 := by unfold grY; rw [List.length_append, numL_length, flat_slY_len, h k List.mem_cons_self]
    omega
set_option maxRecDepth 100000 in
set_option maxHeartbeats 3200000 in
theorem tEncode_calls (tb mb n : Nat) (ks : List Nat) (G : Nat → List Slt) (w : World) (hT : RawW w tb mb n ks G) :
    Calls Try.prog 28 #[.pointer (some ⟨tb, 0, none⟩)] w fun e w' => ∃ u, e = .returned u ∧ w'.ownsRow w.heap.size 5 1 u (encR n ks G).length ((encR n ks G).flatMap byC) ∧ Fr [] w w' := by
  have hn := hT.size
  have hfew := hT.few
  have hd := (Fr.refl [] w).drew
  have hTd := hT.fr0 hd
  have hsz : ∀ X es clock, mapAt X mb = some (es, clock) → IsM Try.prog 3 es clock (rawM ks G) → es.size = ks.length := fun X es clock _ hi => raw_size hT.lt hi
  go_enter Try.func28, Try.ntmps28
  go_wp2_with fail
  refine wp_region_G (Fr [] w.drew) [(true, 0), (true, 1), (true, 2), (true, 3), (true, 4), (true, 5), (true, 6), (true, 7), (true, 8), (false, 9), (false, 10), (true, 11), (true, 12), (true, 13), (true, 14), (true, 15)] (by as_aux_lemma => kernel_rfl) (by as_aux_lemma => kernel_rfl) (Fr.refl _ _) ?_
  simp only [inOrder, List.map_cons, List.map_nil, List.getD_cons_zero, List.getD_cons_succ]
  iterate 3
    refine wpG_pure fun K hK => ?_
    go_simp
    refine hK _ ?_
    clear hK K
  refine wpG_val (.int .i64 n) (by first | rfl | go_simp) (fun X hX => by have cc := (hTd.fr0 hX).blk.cell; go_simp) ?_
  simp only [Act.put, List.setIfInBounds_toArray, List.set_cons_zero, List.set_cons_succ]
  iterate 3
    refine wpG_pure fun K hK => ?_
    go_simp
    refine hK _ ?_
    clear hK K
  refine wpG_val (.map (some mb)) (by first | rfl | go_simp) (fun X hX => by have cc := (hTd.fr0 hX).blk.cell; go_simp) ?_
  simp only [Act.put, List.setIfInBounds_toArray, List.set_cons_zero, List.set_cons_succ]
  refine wpG_val (.int .i64 ks.length) (by first | rfl | go_simp) (fun X hX => by obtain ⟨es, ck, hm, hi⟩ := (hTd.fr0 hX).map; have hl := run_len_map (P := Try.prog) (ty := 3) Try.underlying70 X hm; rw [raw_size hT.lt hi] at hl; go_simp) ?_
  simp only [Act.put, List.setIfInBounds_toArray, List.set_cons_zero, List.set_cons_succ]
  have hfa := (Fr.refl [] w.drew).alloc (.cells #[.int .i64 n, .int .i64 ks.length] 3)
  refine wpG_one fun K hK => ?_
  go_simp
  refine hK _ _ hfa ?_
  clear hK K
  refine wpG_one fun K hK => ?_
  go_simp
  refine (Put_calls 2 (by omega) [n, ks.length] (by intro x hx; simp at hx; rcases hx with rfl | rfl <;> (show _ < 65536; omega)) w.heap.size _ [] w.heap.size 2 _ (World.ownsRow_nil _ _ _ _) (by simp) (by simp) (Blk.new w.drew [_, _] _) (by simp [Value.ownBlock])).mono ?_
  rintro e w1 ⟨v1, rfl, hown1, hf1, hob1⟩
  have hfd1 : Fr [] w.drew w1 := hfa.trans hf1 (by simp [Value.ownBlock])
  refine hK _ _ (hfd1) ?_
  clear hK K
  iterate 5
    refine wpG_pure fun K hK => ?_
    go_simp
    refine hK _ ?_
    clear hK K
  refine wpG_end ?_
  have hF1 : Fr [] w w1 := hd.trans0 hfd1
  have hT1 := hT.fr0 hF1
  have hz1 := hF1.size
  have hb1 : ∀ x, v1.ownBlock = some x → w.heap.size ≤ x ∧ x < w1.heap.size := fun x hx => hown1.lt x hx
  have hpre : ([] : List UInt8) ++ [n, ks.length].flatMap (numL 2) = numL 2 n ++ numL 2 ks.length := by simp
  rw [hpre] at hown1
  have hpl : (numL 2 n ++ numL 2 ks.length).length = 4 := by simp [numL_length]
  have Henc : Hid (encR n ks G = (numL 2 n ++ numL 2 ks.length) ++ ks.flatMap (grY G)) := hidIt rfl
  generalize numL 2 n ++ numL 2 ks.length = pre at *
  clear hfd1 hfa hf1 hob1 hpre hd hTd
  have c1 := hT1.blk.cell
  have l1 := hT1.lts
  go_wp2_with fail
  refine (keys_calls mb w1).mono ?_
  rintro e w2 ⟨rfl, rfl⟩
  have hf2 := (Fr.refl [] w1).alloc (.cells #[.map (some mb)] 70)
  have B2 := Blk.new w1 [.map (some mb)] 70
  have hT2 := hT1.fr0 hf2
  obtain ⟨es2, ck2, hm2, hi2⟩ := hT2.map
  go_wp2_with fail
  refine (sorted_calls w1.heap.size mb 1000 _ (by have := B2.cell 0; exact this) (by simp) hm2 hi2 (by rw [raw_size hT.lt hi2]; exact hfew) (by omega) (keysI ks) (keysI_lt hT.lt) (fun k => keysI_mem k)).mono ?_
  rintro e w3 ⟨v, rfl, hs3, hf3, hb3⟩
  obtain ⟨a3, cap3, rfl, hlc, hcm, _⟩ := hs3.open
  have hlK : (keysI ks).length = ks.length := by simp [keysI]
  unfold maxLen at hcm
  rw [hlK] at hlc
  have hF13 := hf2.trans0 hf3
  have hF3 := hF1.trans0 hF13
  replace hown1 := owns_fr hown1 hF13 (by simp)
  have hb3' : ∀ p, a3 = some p → w1.heap.size < p.block := fun p hp => by
    have := hb3 p.block (by simp [Value.ownBlock, hp])
    simp at this
    omega
  have hT3 := hT.fr0 hF3
  have hz3 := hF13.size
  rw [hlK] at hs3 ⊢
  clear B2 hm2 hi2 hT2 hT1 c1 l1 hb3 hf2 hf3 hF1
  have hkey := hT.key
  have hgrp := hT.grp
  go_wp2_with fail
  go_loopw [3, 31] (fun u i wr => ∃ j : Nat, j ≤ ks.length ∧ i = .int .i64 j ∧ wr.ownsRow w.heap.size 5 1 u (pre ++ (ks.take j).flatMap (grY G)).length ((pre ++ (ks.take j).flatMap (grY G)).flatMap byC) ∧ (∀ x, u.ownBlock = some x → ∀ p, a3 = some p → p.block ≠ x) ∧ SlI wr (.slice a3 ks.length cap3) (keysI ks) ∧ Fr [] w wr) (fun _ i _ => ks.length - (intOf i).toNat)
  case atStart => exact ⟨0, Nat.zero_le _, rfl, by simpa using hown1, fun x hx p hp => by have := (hb1 x hx).2; have := hb3' p hp; omega, hs3, hF3⟩
  case round =>
    clear hown1 hs3 hF3 hT3 hF13
    obtain ⟨j, hj, rfl, hown, hne, hs, hF⟩ := hrel
    by_cases hlt : j < ks.length
    · obtain ⟨b, off, rfl, hb, c0⟩ := SlI.at hs (by rw [hlK]; exact hlt)
      rw [keysI_getD hlt] at c0
      have hmem := getD_memN hlt
      have Hst := hidIt (take_grY (G := G) hlt)
      have hkk := hkey _ hmem
      obtain ⟨hg16, hgr⟩ := hgrp _ hmem
      have hpl2 : (pre ++ (ks.take j).flatMap (grY G)).length ≤ 100000 := by
        rw [List.length_append, grY_len (fun k hk => (hgrp k (List.mem_of_mem_take hk)).1), hpl]
        have : (ks.take j).length ≤ 1000 := by simp; omega
        omega
      have hTw := hT.fr0 hF
      obtain ⟨es, clock, hm, hi⟩ := hTw.map
      have hval : rawM ks G (.int .i64 ((ks.getD j 0 : Nat) : Int)) = some (.agg (gC (G (ks.getD j 0)))) := by rw [rawM_int, if_pos ⟨by omega, by rw [Int.toNat_natCast]; exact hmem⟩, Int.toNat_natCast]
      have hlook : ∀ (W : World), mapAt W mb = some (es, clock) → (Instr.lookup 70 (.map (some mb)) (.int .i64 ((ks.getD j 0 : Nat) : Int)) false).run Try.prog W = .ok (.agg (gC (G (ks.getD j 0)))) W := fun W hW => by
        rw [run_lookup_isM Try.underlying70 keyInt hi false (keyR (by omega) (by omega)) W (zeroGroup W) hW, hval]; rfl
      clear hval
      have cT := hTw.blk.cell
      have lT := hTw.lts
      have hgY : Hid (grY G (ks.getD j 0) = numL 2 (ks.getD j 0) ++ (G (ks.getD j 0)).flatMap slY) := hidIt rfl
      generalize hgd : grY G (ks.getD j 0) = gy at *
      clear hgd
      generalize (ks.take j).flatMap (grY G) = mid at *
      generalize G (ks.getD j 0) = g at *
      generalize ks.getD j 0 = k at *
      clear hmem
      go_wp2_with (first | (refine wpList_allocGroup rfl rfl ?_) | (refine wpList_storeGroup rfl _ _ rfl _ rfl _ rfl (by simp) hg16 (by simp [gC_size, zG_length]) ?_))
      have hfg := (Fr.refl [] wr).alloc (.cells (gC g) 78)
      have hgs : SlS (wr.alloc (.cells (gC g) 78)) (.slice (some ⟨wr.heap.size, 0, none⟩) 16 16) g := by
        refine ⟨_, 16, by rw [hg16], by omega, by unfold maxLen; omega, .inr ⟨wr.heap.size, 0, rfl, by simp, fun j u hu => ?_⟩⟩
        have hgc : gC g = (g.flatMap slotC).toArray := by unfold gC; rfl
        rw [Nat.zero_add, hgc]
        exact ((Blk.new wr (g.flatMap slotC) 78).cell j).trans hu
      refine (sAll_calls _ g _ hgs hgr (by omega)).mono ?_
      rintro e w4 ⟨vx, rfl, hx4, hf4⟩
      have hfg4 := hfg.trans0 hf4
      have hown4 := owns_fr hown hfg4 (by simp)
      have hs4 := SlF.fr0 hs hfg4
      have hF4 := hF.trans0 hfg4
      have hnb := own_base hown
      have hz4 := hfg4.size
      have hxb := own_base hx4
      simp only [World.size_alloc] at hxb
      clear hm hi hlook cT lT hTw hf4 hfg hgs c0
      have hlts := hown.lt
      clear hown hs hF
      go_wp2_with fail
      refine (Put_calls 2 (by omega) [k] (by intro x hx; have := List.mem_singleton.1 hx; subst this; exact hkk) w.heap.size _ _ w4.heap.size 1 _ (hown4.alloc _) (by simp at hpl2 ⊢; omega) (by simp; have := hF4.size; omega) (Blk.new w4 [_] _) (fun x hx e => by have := (hown4.lt x hx).2; omega)).mono ?_
      rintro e w5 ⟨v5, rfl, hown5, hf5, hob5⟩
      have hF5 := (hF4.trans0 ((Fr.refl [] w4).alloc (.cells #[.int .i64 (k : Int)] 3))).trans hf5 (fun x hx hl => by have := hnb x (by simpa using hx); omega)
      have hne45 : ∀ x, v5.ownBlock = some x → b ≠ x := fun x hx => by
        rcases hob5 x hx with h | h
        · exact fun e => hne x h _ rfl e
        · simp at h; omega
      have hfx : Fr u3.ownBlock.toList w4 w5 := (((Fr.refl [] w4).alloc (.cells #[.int .i64 (k : Int)] 3)).weak).trans' hf5
      have hx5 := owns_fr hx4 hfx (fun x hx hm => by have h1 := hxb x hx; have h2 := hlts x (by simpa using hm); omega)
      have hs5 : SlI w5 _ _ := SlF.fr hs4 hfx (fun x hx hm => by simp [Value.ownBlock] at hx; subst hx; exact hne _ (by simpa using hm) _ rfl rfl)
      go_wp2_with (at_builtin; refine Hid.out ?_)
      refine hidIt ?_
      have hglen := flat_slY_len g
      refine wpList_append_slL 62 5 (.int .u8 0) 1 1 Try.underlying62 infoY rfl (by decide) (by decide) rfl _ _ rfl w.heap.size v5 _ _ rfl hown5 vx (g.flatMap slY).length _ (Sl.of_owns hx5) (okV.of_owns hx5) (by rw [flatY_length]; omega) (flat_one (fun _ => by_one) _) rfl (by simp [numL_length] at hpl2 ⊢; omega) (by omega) (by have := hF5.size; omega) ?_
      intro v6 w6 hown6 hgrow6 hloc6
      have e1 : (pre ++ (mid ++ gy)).flatMap byC = (pre ++ mid ++ [k].flatMap (numL 2)).flatMap byC ++ (g.flatMap slY).flatMap byC := by rw [hgY.out]; simp
      have e2 : (pre ++ (mid ++ gy)).length = (pre ++ mid ++ [k].flatMap (numL 2)).length + (g.flatMap slY).length := by rw [hgY.out]; simp; omega
      rw [← e1, ← e2, ← Hst.out] at hown6
      have hF6 := hF5.grown hgrow6 (fun x hx => .inr (own_base hown5 x hx))
      have hs6 : SlI w6 _ _ := SlF.fr hs5 (Fr.of_grown hgrow6) (fun x hx hm => by simp [Value.ownBlock] at hx; subst hx; exact hne45 _ (by simpa using hm) rfl)
      obtain ⟨b9, off9, hab, hb5, _⟩ := SlI.at hs5 (by rw [hlK]; exact hlt)
      cases hab
      clear e1 e2 hown5 hx5 hx4 hown4
      go_wp2
      go_roundw
      case rel => exact ⟨j + 1, by omega, by go_num, hown6, fun x hx p hp => by
          cases hp
          rcases hloc6 with h | h
          · rw [h] at hx; exact hne45 x hx
          · rw [h] at hx; cases hx; exact fun e => by simp at e; omega, hs6, hF6⟩
      case measure => simp [intOf]; omega
    · have hke : j = ks.length := by omega
      subst hke
      rw [List.take_length, ← Henc.out] at hown
      go_wp2
      go_ret
      exact ⟨_, rfl, hown, hF⟩
end Go.Proofs.Ytknbjdbdpdbeiaa
