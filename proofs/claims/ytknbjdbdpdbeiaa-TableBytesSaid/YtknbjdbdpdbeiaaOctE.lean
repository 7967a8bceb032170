/-
  ref08.Encode.
-/
import Derived.Test.YtknbjdbdpdbeiaaOctM
import Derived.Test.YtknbjdbdpdbeiaaRef08b
import Derived.Test.YtknbjdbdpdbeiaaTabRow
import Derived.Test.YtknbjdbdpdbeiaaTabRaw
namespace Go.Proofs.Ytknbjdbdpdbeiaa
open Go.RowKit Go.Maps

/-- a table's bytes -/
def encT (l : List Slt) : List UInt8 := encR l.length (keptL l) (grp l)
theorem rowL_grp (l : List Slt) (k : Nat) (hk : k < 16) : rowL l (16 * (k : Int)) 16 = grp l k := by
  unfold rowL grp
  apply List.map_congr_left
  intro i hi
  rw [List.mem_range] at hi
  rw [IntWalk.wrap64_in _ (by omega), show 16 * (k : Int) + (i : Int) = ((16 * k + i : Nat) : Int) by omega, tget_nat]
/-- the groups that are kept among the first k -/
def kpre (l : List Slt) (k : Nat) : List Nat := ((List.range 16).take k).filter (keptG l)
theorem kpre_all (l : List Slt) : kpre l 16 = keptL l := rfl
theorem kpre_len (l : List Slt) (k : Nat) : (kpre l k).length ≤ 16 := by
  unfold kpre
  refine Nat.le_trans (List.length_filter_le _ _) ?_
  rw [List.length_take, List.length_range]
  omega
theorem kpre_succ {l : List Slt} {k : Nat} (hk : k < 16) : kpre l (k + 1) = kpre l k ++ (if keptG l k then [k] else []) := by
  unfold kpre
  rw [takeE 0 (by simpa using hk), rangeD hk, List.filter_append]
  congr 1
  rw [List.filter_cons, List.filter_nil]
theorem kpre_flat {l : List Slt} {k : Nat} (hk : k < 16) (h : keptG l k = true) : (kpre l (k + 1)).flatMap (grY (grp l)) = (kpre l k).flatMap (grY (grp l)) ++ (numL 2 k ++ (grp l k).flatMap slY) := by
  rw [kpre_succ hk, if_pos h, List.flatMap_append]
  simp [grY]
theorem kpre_skip {l : List Slt} {k : Nat} (hk : k < 16) (h : keptG l k = false) : kpre l (k + 1) = kpre l k := by
  rw [kpre_succ hk, h]
  simp
set_option maxRecDepth 100000 in
set_option maxHeartbeats 1600000 in
theorem rEnc_calls (v : Value) (l : List Slt) (w : World) (hs : SlS w v l) (hr : ∀ s ∈ l, rightS s = true) (hl : l.length ≤ 256) : Calls Try.prog 31 #[v] w fun e w' => e = .returned (strL (encT l)) ∧ Fr [] w w' := by
  obtain ⟨a, cap, rfl, hlc, hcm, _⟩ := hs.open
  have kN := fun n X h => rNum_calls 2 n (by omega) h X
  have hgr : groups l ≤ 16 := Nat.le_trans (List.length_filter_le _ _) (by simp)
  have Hpre : Hid (numL 2 l.length ++ numL 2 (groups l) ++ (kpre l 0).flatMap (grY (grp l)) = numL 2 l.length ++ numL 2 (groups l)) := hidIt (by simp [kpre])
  have hpl : (numL 2 l.length ++ numL 2 (groups l)).length = 4 := by simp [numL_length]
  have had0 : ∀ X : World, (binOp .add 9 (strL (numL 2 l.length)) (strL (numL 2 (groups l)))).run Try.prog X = .ok (strL (numL 2 l.length ++ numL 2 (groups l))) X := fun X => add_str _ _ X (by simp [numL_length])
  have hb1 : l.length < 256 ^ 2 := by omega
  have hb2 : groups l < 256 ^ 2 := by omega
  go_enter Try.func31, Try.ntmps31
  go_wp2_with fail
  refine (kN l.length _ hb1).mono ?_
  rintro e w1 ⟨rfl, hf1⟩
  go_wp2_with fail
  refine (rGroups_calls _ l _ (hs.fr0 hf1)).mono ?_
  rintro e w2 ⟨rfl, hf2⟩
  go_wp2_with fail
  refine (kN (groups l) _ hb2).mono ?_
  rintro e w3 ⟨rfl, hf3⟩
  have hF3 := (hf1.trans0 hf2).trans0 hf3
  have Henc : Hid (encT l = numL 2 l.length ++ numL 2 (groups l) ++ (kpre l 16).flatMap (grY (grp l))) := hidIt rfl
  clear hf1 hf2 hf3 hb1 hb2
  go_wp2_with fail
  generalize numL 2 l.length ++ numL 2 (groups l) = pre at *
  clear had0
  go_loopw [3, 4] (fun u i wr => ∃ k : Nat, k ≤ 16 ∧ i = .int .i64 k ∧ u = strL (pre ++ (kpre l k).flatMap (grY (grp l))) ∧ Fr [] w wr) (fun _ i _ => 16 - (intOf i).toNat)
  case atStart => exact ⟨0, Nat.zero_le _, rfl, by rw [Hpre.out], hF3⟩
  case round =>
    clear hF3
    obtain ⟨k, hk, rfl, rfl, hF⟩ := hrel
    by_cases hlt : k < 16
    · have kK := rkept_calls _ l k wr (hs.fr0 hF) hlt
      cases hkp : keptG l k with
      | false =>
        rw [hkp] at kK
        have Hst := hidIt (congrArg (List.flatMap (grY (grp l))) (kpre_skip hlt hkp))
        generalize (kpre l k).flatMap (grY (grp l)) = mid at *
        go_wp2_with fail
        refine kK.mono ?_
        rintro e w4 ⟨rfl, hf4⟩
        go_wp2
        go_roundw
        case rel => exact ⟨k + 1, by omega, by go_num, by rw [Hst.out], hF.trans0 hf4⟩
        case measure => simp [intOf]; omega
      | true =>
        rw [hkp] at kK
        have Hst := hidIt (kpre_flat hlt hkp)
        have hml : ((kpre l k).flatMap (grY (grp l))).length ≤ 1056 := by
          rw [grY_len (fun k _ => grp_length l k)]
          have := kpre_len l k
          omega
        have hrow := rowL_grp l k hlt
        have hrw : rowN 16 = 16 := rfl
        have hgl := grp_length l k
        have hgr2 : ∀ s ∈ grp l k, rightS s = true := fun s hs => by
          obtain ⟨i, _, rfl⟩ := List.mem_map.1 hs
          exact right_getD hr _
        generalize (kpre l k).flatMap (grY (grp l)) = mid at *
        go_wp2_with fail
        refine kK.mono ?_
        rintro e w4 ⟨rfl, hf4⟩
        have hF4 := hF.trans0 hf4
        have kRow := rRow_calls _ l (16 * (k : Int)) 16 w4 (hs.fr0 hF4)
        rw [hrw, hrow] at kRow
        go_wp2_with fail
        refine kRow.mono ?_
        rintro e w5 ⟨u5, rfl, hown5, hf5⟩
        have hs5 : SlS w5 u5 (grp l k) := by
          rw [← hgl] at hown5
          exact SlF.of_owns hown5
        generalize grp l k = g at *
        have hF5 := hF4.trans0 hf5
        go_wp2_with fail
        refine (rAll_calls u5 g _ hs5 hgr2 (by omega)).mono ?_
        rintro e w6 ⟨rfl, hf6⟩
        have hF6 := hF5.trans0 hf6
        have hgy : (g.flatMap slY).length = 64 := by rw [flat_slY_len, hgl]
        generalize g.flatMap slY = gy at *
        have ha1 : ∀ X : World, (binOp .add 9 (strL (pre ++ mid)) (strL (numL 2 k))).run Try.prog X = .ok (strL (pre ++ mid ++ numL 2 k)) X := fun X => add_str _ _ X (by rw [List.length_append, numL_length]; omega)
        have ha2 : ∀ X : World, (binOp .add 9 (strL (pre ++ (mid ++ numL 2 k))) (strL gy)).run Try.prog X = .ok (strL (pre ++ (mid ++ (numL 2 k ++ gy)))) X := fun X => by
          have := add_str (pre ++ (mid ++ numL 2 k)) gy X (by rw [List.length_append, List.length_append, numL_length]; omega)
          rwa [List.append_assoc, List.append_assoc] at this
        have hb3 : k < 256 ^ 2 := by omega
        go_wp2_with fail
        refine (kN k _ hb3).mono ?_
        rintro e w7 ⟨rfl, hf7⟩
        go_wp2
        go_roundw
        case rel => exact ⟨k + 1, by omega, by go_num, by rw [Hst.out], hF6.trans0 hf7⟩
        case measure => simp [intOf]; omega
    · have hke : k = 16 := by omega
      subst hke
      generalize (kpre l 16).flatMap (grY (grp l)) = mid at *
      go_wp2
      go_ret
      exact ⟨by rw [Henc.out]; rfl, hF⟩
end Go.Proofs.Ytknbjdbdpdbeiaa
