/-
  bits.Row.
-/
import Derived.Test.YtiifmakhfpllnaaGreatM10
import Derived.Test.YtiifmakhfpllnaaGreatM08
import Derived.Test.YtiifmakhfpllnaaGreatM03
namespace Go.Proofs.YtiifmakhfpllnaaGreat
open Go.RowKit Go.Maps

def kindsB (S g : Nat) (l : List Bool) (n : Nat) : List Int := (List.range n).map fun s : Nat => if isB S g l s = true then 1 else 0
theorem kindsB_succ (S g : Nat) (l : List Bool) (n : Nat) : kindsB S g l (n + 1) = kindsB S g l n ++ [if isB S g l n = true then 1 else 0] := by
  unfold kindsB
  rw [List.range_succ, List.map_append]
  rfl
theorem kindsB_len (S g : Nat) (l : List Bool) (n : Nat) : (kindsB S g l n).length = n := by simp [kindsB]
theorem kindsB_getD (S g : Nat) (l : List Bool) {n s : Nat} (h : s < n) : (kindsB S g l n).getD s 0 = if isB S g l s = true then 1 else 0 := by
  unfold kindsB
  rw [List.getD_eq_getElem?_getD, List.getElem?_map, List.getElem?_range h]
  rfl
set_option maxRecDepth 100000 in
set_option maxHeartbeats 1600000 in
theorem Row_calls (tb mb S g : Nat) (l : List Bool) (w : World) (h : BitW w tb mb S g l) : Calls Tryz.prog 36 #[.pointer (some ⟨tb, 0, none⟩)] w fun e w' => ∃ v', e = .returned v' ∧ SlP w' v' (ofE (kindsB S g l S)) ∧ Fr [] w w' := by
  have hS := h.size
  have c := h.blk.cell
  have hlt0 := h.lt.1
  go_enter Tryz.func36, Tryz.ntmps36
  go_wp2_with fail
  go_loopw [3, 4, 5, 10] (fun v _ _ i wr => ∃ n : Nat, n ≤ S ∧ i = .int .i64 n ∧ wr.ownsRow w.heap.size 3 1 v n ((kindsB S g l n).flatMap intC) ∧ Fr [] w wr) (fun _ _ _ i _ => S - (intOf i).toNat)
  case atStart => exact ⟨0, Nat.zero_le _, rfl, World.ownsRow_nil _ _ _ _, Fr.refl _ _⟩
  case round =>
    obtain ⟨n, hnl, rfl, hown, hF⟩ := hrel
    have hW := h.fr0 hF
    clear c
    by_cases hlt : n < S
    · have Hst := hidIt (kindsB_succ S g l n)
      generalize kindsB S g l n = K at *
      go_wp2_with fail
      refine (Is_calls tb mb S g l n _ hW).mono ?_
      rintro e w2 ⟨rfl, hf2⟩
      have hown2 := owns_fr hown hf2 (by simp)
      have hF2 := hF.trans0 hf2
      have hob := own_base hown2
      have hsz := hF2.size
      clear hown hF hf2 hW
      generalize isB S g l (n : Int) = q at *
      cases q
      · go_wp2_with (at_builtin; refine Hid.out ?_)
        refine hidIt ?_
        refine wpList_append1 124 3 (.int .i64 0) 1 8 Tryz.underlying124 infoInt rfl (by decide) (by decide) rfl _ _ rfl w.heap.size u3 n (K.flatMap intC) rfl (hown2.alloc _) (intC 0) rfl int_one w2.heap.size rfl (Blk.new _ _ _) (by omega) (by simp; omega) ?_
        intro v' w3 hown3 hgrow hloc
        go_frame
        go_wp2
        go_roundw
        case rel => exact ⟨n + 1, by omega, by go_num, by rw [Hst.out]; simpa using hown3, (hF2.alloc _).grown hgrow (fun x hx => .inr (hob x hx))⟩
        case measure => simp [intOf]; omega
      · go_wp2_with (at_builtin; refine Hid.out ?_)
        refine hidIt ?_
        refine wpList_append1 124 3 (.int .i64 0) 1 8 Tryz.underlying124 infoInt rfl (by decide) (by decide) rfl _ _ rfl w.heap.size u3 n (K.flatMap intC) rfl (hown2.alloc _) (intC 1) rfl int_one w2.heap.size rfl (Blk.new _ _ _) (by omega) (by simp; omega) ?_
        intro v' w3 hown3 hgrow hloc
        go_frame
        go_wp2
        go_roundw
        case rel => exact ⟨n + 1, by omega, by go_num, by rw [Hst.out]; simpa using hown3, (hF2.alloc _).grown hgrow (fun x hx => .inr (hob x hx))⟩
        case measure => simp [intOf]; omega
    · have hke : n = S := by omega
      subst hke
      have hsl : SlI wr u3 (kindsB n g l n) := SlF.of_owns (base := w.heap.size) (e := 3) (size := 1) (by rw [kindsB_len]; exact hown)
      have hkl := kindsB_len n g l n
      go_wp2_with fail
      refine (Of_calls u3 _ _ hsl (by omega)).mono ?_
      rintro e w2 ⟨v2, rfl, hs2, hf2⟩
      go_wp2
      go_ret
      exact ⟨v2, rfl, hs2, hF.trans0 hf2⟩
end Go.Proofs.YtiifmakhfpllnaaGreat

namespace Go.Proofs.YtiifmakhfpllnaaGreat
open Go.RowKit Go.Maps

theorem infoBool : (Tryz.prog.info? 4).map (fun i => (i.zero, i.size, i.bytes)) = some (some (.bool false), 1, 1) := by kernel_rfl
set_option maxHeartbeats 400000 in
theorem inside_calls (S g : Nat) (v : Value) (f n : Int) (w : World) (hS : S ≤ 4096) (fw : -9223372036854775808 ≤ n ∧ n ≤ 9223372036854775807) :
    Calls Tryz.prog 75 #[.agg #[.int .i64 S, .int .i64 g, v], .int .i64 f, .int .i64 n] w fun e w' => e = .returned (.bool (decide (insideB S f n))) ∧ Fr [] w w' := by
  have H : Hid (insideB S f n ↔ 0 ≤ n ∧ 0 ≤ f ∧ n ≤ S ∧ f ≤ S - n) := hidIt Iff.rfl
  have B3 := Blk.new w [.int .i64 S, .int .i64 g, v] 74
  have c3 := B3.cell
  by_cases h1 : n < 0
  · have hd : decide (insideB S f n) = false := by simp; intro h; have := h.1; omega
    rw [hd]
    clear H hd
    go_enter Tryz.func75, Tryz.ntmps75
    go_wp2
    go_ret
    exact ⟨rfl, (Fr.refl _ _).alloc _⟩
  · by_cases h2 : f < 0
    · have hd : decide (insideB S f n) = false := by simp; intro h; have := h.2.1; omega
      rw [hd]
      clear H hd
      have h1' : 0 ≤ n := by omega
      go_enter Tryz.func75, Tryz.ntmps75
      go_wp2
      go_ret
      exact ⟨rfl, (Fr.refl _ _).alloc _⟩
    · have h1' : 0 ≤ n := by omega
      have h2' : 0 ≤ f := by omega
      by_cases h3 : n ≤ S
      · have hd : decide (insideB S f n) = decide (f ≤ (S : Int) - n) := by rw [decide_eq_decide]; rw [H.out]; omega
        rw [hd]
        clear H hd h1 h2
        go_enter Tryz.func75, Tryz.ntmps75
        go_wp2
        go_ret
        exact ⟨rfl, (Fr.refl _ _).alloc _⟩
      · have hd : decide (insideB S f n) = false := by simp; intro h; have := h.2.2.1; omega
        rw [hd]
        clear H hd h1 h2
        have h3' : (S : Int) < n := by omega
        go_enter Tryz.func75, Tryz.ntmps75
        go_wp2
        go_ret
        exact ⟨rfl, (Fr.refl _ _).alloc _⟩
def fewO (o : Op3) : Bool := !(decide (o.1 = 2) && decide (100 < o.2.2) && decide (o.2.2 ≤ 4096))
def fewS (s : Int) (l : List Op3) : Bool := l.all fewO && (decide (l.length ≤ 60) && (decide (s ≤ 100) || decide (4096 < s)))
end Go.Proofs.YtiifmakhfpllnaaGreat

namespace Go.Proofs.YtiifmakhfpllnaaGreat
open Go.RowKit Go.Maps

def P2 (x : Int) : Prop := x = 1 ∨ x = 2 ∨ x = 4 ∨ x = 8 ∨ x = 16 ∨ x = 32 ∨ x = 64 ∨ x = 128
theorem P2_step {x : Int} (h : P2 x) (hx : x ≤ 64) : P2 (x + x) ∧ 1 ≤ x ∧ x ≤ 128 := by unfold P2 at *; omega
theorem P2_le {x : Int} (h : P2 x) : 1 ≤ x ∧ x ≤ 128 := by unfold P2 at *; omega
theorem P2_no {x g : Int} (h : P2 x) (hx : x ≤ 64) (hg : pow2 g = false) : x ≠ g := by
  rintro rfl
  simp [pow2] at hg
  unfold P2 at h
  omega
theorem P2_far {x g : Int} (h : P2 x) (hg : pow2 g = true) (hx : x ≤ g) (hn : x ≠ g) : x + x ≤ g := by
  simp [pow2] at hg
  unfold P2 at h
  omega
def z0 : Value := .agg #[.int .i64 0, .int .i64 0, .slice none 0 0]
set_option maxRecDepth 100000 in
set_option maxHeartbeats 800000 in
theorem rNew_no (s g : Int) (w : World) (h : okNew s g = false) : Calls Tryz.prog 69 #[.int .i64 s, .int .i64 g] w
      fun e w' => e = .returned (.tuple #[z0, .bool false]) ∧ Fr [] w w' := by
  by_cases hs : okSec s = true
  · have hp : pow2 g = false := by simpa [okNew, hs] using h
    have hs1 : 0 ≤ s ∧ s ≤ 4096 := by simpa [okSec] using hs
    have h1 := hs1.1
    have h2 := hs1.2
    have B4 := Blk.new w [.int .i64 0, .int .i64 0, .slice none 0 0] 74
    have B4c := B4.cell
    clear hs hs1 h
    go_enter Tryz.func69, Tryz.ntmps69
    go_wp2
    go_loopw [6] (fun i wr => ∃ x : Int, P2 x ∧ i = .int .i64 x ∧ wr = w.alloc (.cells #[.int .i64 0, .int .i64 0, .slice none 0 0] 74)) (fun i _ => 200 - (intOf i).toNat)
    case atStart => exact ⟨1, .inl rfl, rfl, rfl⟩
    case round =>
      obtain ⟨x, hx, rfl, rfl⟩ := hrel
      have hx1 := P2_le hx
      by_cases h64 : x ≤ 64
      · have hne := P2_no hx h64 hp
        have hst := hidIt (P2_step hx h64)
        clear hx
        go_wp2
        go_roundw
        case rel => exact ⟨x + x, hst.out.1, by go_num, trivial⟩
        case measure => simp [intOf]; omega
      · clear hx
        go_wp2
        exact bodyPost_ret (v := .tuple #[z0, .bool false]) (by simp [results, Tryz.results69, go_sem, z0, B4c]) rfl ⟨rfl, (Fr.refl _ _).alloc _⟩
  · have hs1 : s < 0 ∨ 4096 < s := by simp [okSec] at hs; omega
    clear hs h
    have B4 := Blk.new w [.int .i64 0, .int .i64 0, .slice none 0 0] 74
    have B4c := B4.cell
    rcases hs1 with hs1 | hs1
    · go_enter Tryz.func69, Tryz.ntmps69
      go_wp2
      exact bodyPost_ret (v := .tuple #[z0, .bool false]) (by simp [results, Tryz.results69, go_sem, z0, B4c]) rfl ⟨rfl, (Fr.refl _ _).alloc _⟩
    · have h0 : 0 ≤ s := by omega
      go_enter Tryz.func69, Tryz.ntmps69
      go_wp2
      exact bodyPost_ret (v := .tuple #[z0, .bool false]) (by simp [results, Tryz.results69, go_sem, z0, B4c]) rfl ⟨rfl, (Fr.refl _ _).alloc _⟩
def rb (S g : Nat) (v : Value) : Value := .agg #[.int .i64 S, .int .i64 g, v]
set_option maxRecDepth 100000 in
set_option maxHeartbeats 1600000 in
theorem rNew_yes (S g : Nat) (w : World) (hS : S ≤ 4096) (hp : pow2 g = true) : Calls Tryz.prog 69 #[.int .i64 (S : Int), .int .i64 (g : Int)] w
      fun e w' => ∃ v, e = .returned (.tuple #[rb S g v, .bool true]) ∧ w'.ownsRow w.heap.size 4 1 v (gran S g) ((List.replicate (gran S g) false).flatMap boolC) ∧ Fr [] w w' := by
  have hg := pow2_le hp
  have hg0 : 0 < g := by omega
  have hle := gran_le hS hg0
  have B4 := Blk.new w [.int .i64 0, .int .i64 0, .slice none 0 0] 74
  have B4c := B4.cell
  have B4f := B4.frozen
  go_enter Tryz.func69, Tryz.ntmps69
  go_wp2
  go_loopw [6] (fun i wr => ∃ x : Int, P2 x ∧ x ≤ g ∧ i = .int .i64 x ∧ wr = w.alloc (.cells #[.int .i64 0, .int .i64 0, .slice none 0 0] 74)) (fun i _ => 200 - (intOf i).toNat)
  case atStart => exact ⟨1, .inl rfl, hg.1, rfl, rfl⟩
  case round =>
    obtain ⟨x, hx, hxg, rfl, rfl⟩ := hrel
    have hx1 := P2_le hx
    have h64 : x ≤ 64 := by omega
    by_cases hne : x = g
    · subst hne
      clear hx hxg hx1 hp
      go_wp2_with fail
      go_loopw [8] (fun n wr => ∃ (k : Nat) (v : Value), k ≤ gran S g ∧ n = .int .i64 ((k * g : Nat) : Int) ∧ Blk wr (w.heap.size + 1) [.int .i64 S, .int .i64 g, v] 74 ∧ Blk wr w.heap.size [.int .i64 0, .int .i64 0, .slice none 0 0] 74 ∧
        wr.ownsRow (w.heap.size + 2) 4 1 v k ((List.replicate k false).flatMap boolC) ∧ Fr [] w wr) (fun n _ => S - (intOf n).toNat)
      case atStart =>
        exact ⟨0, .slice none 0 0, Nat.zero_le _, by simp, Blk.new' (by simp) [_, _, _] _, B4.alloc _, World.ownsRow_nil _ _ _ _, ((Fr.refl _ _).alloc _).alloc _⟩
      case round =>
        obtain ⟨k, v, hk, rfl, B7, B4', hown, hF⟩ := hrel
        obtain ⟨av, cv, rfl, _, _, _⟩ := Sl.of_owns hown
        have hcl := ceil_lt (X := S) (g := g) (k := k) hg0
        have hcl : k < gran S g ↔ k * g < S := hcl
        have hnx : Hid ((k + 1) * g = k * g + g) := hidIt (Nat.succ_mul k g)
        have Hrep : Hid ((List.replicate (k + 1) false).flatMap boolC = (List.replicate k false).flatMap boolC ++ boolC false) := hidIt (by rw [List.replicate_succ', List.flatMap_append]; simp)
        have hkg : k * g < 1000000 := by
          have : k * g ≤ 4096 * 64 := Nat.mul_le_mul (by omega) (by omega)
          omega
        generalize k * g = m at *
        have b7 := B7.cell
        have f7 := B7.frozen
        have b4 := B4'.cell
        have f4 := B4'.frozen
        have hsz := hF.size
        have hbl := B7.lt
        by_cases hlt : m < S
        · have hk' := hcl.2 hlt
          have hb2 : w.heap.size + 2 ≤ (wr.alloc (.cells #[.bool false] 4)).heap.size := by simp; omega
          clear hcl hg
          go_wp2_with (at_builtin; refine wpList_append1 72 4 (.bool false) 1 1 Tryz.underlying72 infoBool rfl (by decide) (by decide) rfl _ _ rfl (w.heap.size + 2) _ k _ rfl (hown.alloc _) (boolC false) rfl bool_one wr.heap.size rfl (Blk.new _ _ _) (by omega) hb2 ?_; intro v' w2 hown2 hgrow hloc; obtain ⟨av', cv', rfl, _, _, _⟩ := Sl.of_owns hown2; have hgf := Fr.of_grown hgrow; have B72 := (B7.alloc _).fr hgf (own_notin hown (by omega)); have B42 := (B4'.alloc _).fr hgf (own_notin hown (by omega)); have b72 := B72.cell; have f72 := B72.frozen)
          have hob := own_base hown
          go_roundw
          case rel =>
            refine ⟨k + 1, .slice av' (k + 1) cv', by omega, by rw [hnx.out]; go_num, ?_, B42.other (by simp) _, ?_, ?_⟩
            · exact B72.setCell 2 _
            · rw [Hrep.out]
              exact owns_setCell hown2 (by simp) _
            · exact (((hF.alloc _).grown hgrow (fun x hx => .inr (by have := hob x hx; omega)))).setCell (.inr (by simp)) _
          case measure => simp [intOf]; omega
        · have hke : k = gran S g := by omega
          subst hke
          clear hcl hg
          go_wp2
          exact bodyPost_ret (v := .tuple #[rb S g (.slice av (gran S g) cv), .bool true]) (by simp [results, Tryz.results69, go_sem, rb, b4]) rfl ⟨_, rfl, owns_base (owns_setCell (owns_setCell (owns_setCell hown (by simp) _) (by simp) _) (by simp) _) (by omega), ((hF.setCell (.inr (Nat.le_refl _)) _).setCell (.inr (Nat.le_refl _)) _).setCell (.inr (Nat.le_refl _)) _⟩
    · have hfar := hidIt (P2_far hx hp hxg hne)
      have hst := hidIt (P2_step hx h64)
      clear hx hp
      go_wp2
      go_roundw
      case rel => exact ⟨x + x, hst.out.1, hfar.out, by go_num, trivial⟩
      case measure => simp [intOf]; omega
end Go.Proofs.YtiifmakhfpllnaaGreat

namespace Go.Proofs.YtiifmakhfpllnaaGreat
open Go.RowKit Go.Maps

/-- as far as s: is one among them? are all? -/
def oneTo (m f n s : Nat) : Bool := decide (max m f < min s (f + n))
def allTo (m f n s : Nat) : Bool := decide (s ≤ m ∨ (f ≤ m ∧ s ≤ f + n))
theorem oneTo_start (m f n : Nat) : oneTo m f n m = false := by simp [oneTo]; omega
theorem allTo_start (m f n : Nat) : allTo m f n m = true := by simp [allTo]
theorem to_in {m f n s : Nat} (hm : m ≤ s) (h1 : f ≤ s) (h2 : s < f + n) : oneTo m f n (s + 1) = true ∧ allTo m f n (s + 1) = allTo m f n s := by
  simp only [oneTo, allTo, decide_eq_true_eq, decide_eq_decide]
  omega
theorem to_out {m f n s : Nat} (hm : m ≤ s) (h : ¬ (f ≤ s ∧ s < f + n)) : oneTo m f n (s + 1) = oneTo m f n s ∧ allTo m f n (s + 1) = false := by
  simp only [oneTo, allTo, decide_eq_false_iff_not, decide_eq_decide]
  omega
theorem to_end {S g f n k s : Nat} (h : s = min (k * g + g) S) (hk : k * g < S) (hg : 0 < g) : oneTo (k * g) f n s = oneB S g f n k ∧ allTo (k * g) f n s = allB S g f n k := by
  subst h
  simp only [oneTo, allTo, oneB, allB]
  constructor
  · trivial
  · rw [Bool.eq_iff_iff]; simp; omega
/-- the row when k granules have been gone through -/
def mixB (R l : List Bool) (k : Nat) : List Bool := (List.range l.length).map fun i => if i < k then R.getD i false else l.getD i false
theorem mixB_len (R l : List Bool) (k : Nat) : (mixB R l k).length = l.length := by simp [mixB]
theorem mixB_getD (R l : List Bool) (k i : Nat) (hi : i < l.length) : (mixB R l k).getD i false = if i < k then R.getD i false else l.getD i false := getD_range l _ hi
theorem mixB_start (R l : List Bool) : mixB R l 0 = l := extB (mixB_len ..) fun i hi => by
  rw [mixB_len] at hi
  rw [mixB_getD _ _ _ _ hi, if_neg (by omega)]
theorem mixB_end {R l : List Bool} (h : R.length = l.length) : mixB R l l.length = R := extB (by rw [mixB_len, h]) fun i hi => by
  rw [mixB_len] at hi
  rw [mixB_getD _ _ _ _ hi, if_pos hi]
theorem mixB_step (R l : List Bool) (k : Nat) (hk : k < l.length) : mixB R l (k + 1) = (mixB R l k).set k (R.getD k false) := extB (by simp [mixB_len]) fun i hi => by
  rw [mixB_len] at hi
  rw [getD_setB _ _ _ _ (by rw [mixB_len]; exact hk), mixB_getD _ _ _ _ hi, mixB_getD _ _ _ _ hi]
  by_cases h1 : i = k
  · subst h1; rw [if_pos rfl, if_pos (by omega)]
  · rw [if_neg h1]
    by_cases h2 : i < k
    · rw [if_pos h2, if_pos (by omega)]
    · rw [if_neg h2, if_neg (by omega)]
theorem mixB_same (R l : List Bool) (k : Nat) (hk : k < l.length) (h : R.getD k false = l.getD k false) : mixB R l (k + 1) = mixB R l k := extB (by simp [mixB_len]) fun i hi => by
  rw [mixB_len] at hi
  rw [mixB_getD _ _ _ _ hi, mixB_getD _ _ _ _ hi]
  by_cases h1 : i = k
  · subst h1; rw [if_pos (by omega), if_neg (by omega), h]
  · by_cases h2 : i < k
    · rw [if_pos h2, if_pos (by omega)]
    · rw [if_neg h2, if_neg (by omega)]
theorem bSet_getD {S g : Nat} {l : List Bool} {f n k : Nat} (hk : k < l.length) : (bSet S g l f n).getD k false = (oneB S g f n k || l.getD k false) := getD_range l _ hk
theorem bClear_getD {S g : Nat} {l : List Bool} {f n k : Nat} (hk : k < l.length) : (bClear S g l f n).getD k false = (!allB S g f n k && l.getD k false) := getD_range l _ hk
end Go.Proofs.YtiifmakhfpllnaaGreat

namespace Go.Proofs.YtiifmakhfpllnaaGreat
open Go.RowKit Go.Maps

set_option maxRecDepth 100000 in
set_option maxHeartbeats 4000000 in
theorem rSet_true (S g : Nat) (v : Value) (l : List Bool) (f n : Nat) (w : World) (hv : SlB w v l) (hok : okV v) (hS : S ≤ 4096) (hg : 0 < g ∧ g ≤ 64) (hlen : l.length = gran S g) (hin : f + n ≤ S) :
    Calls Tryz.prog 40 #[.agg #[.int .i64 S, .int .i64 g, v], .int .i64 (f : Int), .int .i64 (n : Int), .bool true] w
      fun e w' => ∃ v', e = .returned (.tuple #[rb S g v', .int .i64 0]) ∧ SlB w' v' (bSet S g l f n) ∧ okV v' ∧ Fr [] w w' ∧ ∀ k, v'.ownBlock = some k → w.heap.size ≤ k := by
  have hle := gran_le hS hg.1
  have hins : decide (insideB S (f : Int) (n : Int)) = true := by simp [insideB]; omega
  have HR : Hid ((bSet S g l f n).length = l.length) := hidIt (by simp [bSet])
  obtain ⟨av, cv, rfl, _, _, _⟩ := hv.open
  have hle2 : l.length ≤ 4096 := by omega
  replace hlen := hidIt hlen
  go_enter Tryz.func40, Tryz.ntmps40
  go_wp2_with fail
  refine (inside_calls S g _ f n _ hS (by omega)).mono ?_
  rintro e w1 ⟨rfl, hf⟩
  rw [hins]
  have hF1 : Fr [] w w1 := (((Fr.refl _ w).alloc _).alloc _).trans0 hf
  have B4 : Blk w1 w.heap.size [.int .i64 S, .int .i64 g, .slice av l.length cv] 74 := ((Blk.new w [_, _, _] _).alloc _).fr0 hf
  have B8 : Blk w1 (w.heap.size + 1) [.int .i64 0, .int .i64 0, .slice none 0 0] 74 := (Blk.new' (by simp) [_, _, _] _).fr0 hf
  have hsz1 := hf.size
  simp only [World.size_alloc] at hsz1
  have hv1 := hv.fr0 hF1
  clear hf hv
  have b4 := B4.cell
  have l4 := B4.lt
  go_wp2_with (at_builtin; refine Hid.out ?_)
  refine hidIt ?_
  refine wpList_append_sl 72 4 (.bool false) 1 1 Tryz.underlying72 infoBool rfl (by decide) (by decide) rfl _ _ rfl w1.heap.size _ 0 _ rfl (World.ownsRow_made w1 _ 0 (Nat.le_refl _) (by decide) rfl) _ l.length (l.flatMap boolC) (Sl.fr0 hv1 ((Fr.refl _ _).alloc _)) hok (by rw [flatB_length, Nat.mul_one]) (flat_one (fun _ => bool_one) l) rfl (by omega) (by omega) (by simp) ?_
  intro v2 w2 hown2 hgrow
  rw [Nat.zero_add, List.nil_append] at hown2
  have hf2 : Fr [] w1 w2 := ((Fr.refl [] w1).alloc _).grown hgrow (fun x hx => .inr (by cases hx; exact Nat.le_refl _))
  replace hF := hF1.trans0 hf2
  have B42 := B4.fr0 hf2
  have B82 := B8.fr0 hf2
  clear B4 B8 b4 hf2 hgrow hF1 hok hv1
  obtain ⟨a2, c2, rfl, _, _, _⟩ := Sl.of_owns hown2
  go_wp2_with fail
  go_loopw [11] (fun i wr => ∃ k : Nat, k ≤ l.length ∧ i = .int .i64 k ∧ wr.ownsRow w1.heap.size 4 1 (.slice a2 l.length c2) l.length ((mixB (bSet S g l f n) l k).flatMap boolC) ∧
    Blk wr w.heap.size [.int .i64 S, .int .i64 g, .slice av l.length cv] 74 ∧ Blk wr (w.heap.size + 1) [.int .i64 0, .int .i64 0, .slice none 0 0] 74 ∧ Fr [] w wr) (fun i _ => l.length - (intOf i).toNat)
  case atStart => exact ⟨0, Nat.zero_le _, rfl, by rw [mixB_start]; exact hown2, B42, B82, hF⟩
  case round =>
    clear hF B42 B82 hown2
    obtain ⟨k, hk, rfl, hown, B4, B8, hF⟩ := hrel
    have b4 := B4.cell
    have f4 := B4.frozen
    have b8 := B8.cell
    have f8 := B8.frozen
    have hsz := hF.size
    generalize wr = wo at *
    by_cases hlt : k < l.length
    · have hkS : k * g < S := (ceil_lt hg.1).1 (by unfold gran at hlen; have := hlen.out; omega)
      have Hend := fun (s : Nat) (h : s = min (k * g + g) S) => hidIt (to_end (f := f) (n := n) h hkS hg.1)
      have Hst := hidIt (mixB_step (bSet S g l f n) l k hlt)
      have Hsame := fun h => hidIt (mixB_same (bSet S g l f n) l k hlt h)
      have HgR := hidIt (bSet_getD (S := S) (g := g) (f := f) (n := n) hlt)
      have hmlen := mixB_len (bSet S g l f n) l k
      obtain ⟨gb, cap, hva, hgb, _⟩ := owns_succ hown (by omega)
      cases hva
      have hck := owns_at hown (j := k) (u := .bool ((mixB (bSet S g l f n) l k).getD k false)) (by rw [flatB_at, getD_some false (by omega)]; rfl)
      obtain ⟨hcell, hfz⟩ := hck
      have hmul : (k : Int) * (g : Int) = ((k * g : Nat) : Int) := by simp
      generalize k * g = m at *
      have h1s := oneTo_start m f n
      have h2s := allTo_start m f n
      go_wp2_with fail
      go_loopw [12, 13, 14, 15] (fun o a s _ wr => wr = wo ∧ ∃ q : Nat, m ≤ q ∧ q ≤ min (m + g) S ∧ s = .int .i64 q ∧ o = .bool (oneTo m f n q) ∧ a = .bool (allTo m f n q)) (fun _ _ s _ _ => m + g - (intOf s).toNat)
      case atStart => exact ⟨rfl, m, Nat.le_refl _, by omega, rfl, by rw [h1s], by rw [h2s]⟩
      case round =>
        obtain ⟨rfl, q, hmq, hqe, rfl, rfl, rfl⟩ := hrel
        clear h1s h2s
        by_cases hq : q < min (m + g) S
        · clear Hst Hsame HgR hcell hfz hown
          have hq1 : q < m + g := by omega
          have hq2 : q < S := by omega
          by_cases hq3 : f ≤ q ∧ q < f + n
          · obtain ⟨hq3, hq4⟩ := hq3
            have Ho := hidIt (to_in (n := n) hmq hq3 hq4)
            have hq7 : (q : Int) < (f : Int) + (n : Int) := by omega
            clear Hend
            generalize oneTo m f n q = A at *
            generalize allTo m f n q = C at *
            cases A <;> cases C
            all_goals go_wp2
            all_goals go_roundw
            all_goals first
              | exact ⟨rfl, q + 1, by omega, by omega, by go_num, by rw [Ho.out.1], by rw [Ho.out.2]⟩
              | exact ⟨trivial, q + 1, by omega, by omega, by go_num, by rw [Ho.out.1], by rw [Ho.out.2]⟩
              | (simp [intOf]; omega)
          · have Ho := hidIt (to_out (f := f) (n := n) hmq hq3)
            clear Hend
            generalize oneTo m f n q = A at *
            generalize allTo m f n q = C at *
            by_cases hq5 : f ≤ q
            · have hq6 : ¬ (q : Int) < (f : Int) + (n : Int) := by omega
              cases A <;> cases C
              all_goals go_wp2
              all_goals go_roundw
              all_goals first
                | exact ⟨rfl, q + 1, by omega, by omega, by go_num, by rw [Ho.out.1], by rw [Ho.out.2]⟩
                | exact ⟨trivial, q + 1, by omega, by omega, by go_num, by rw [Ho.out.1], by rw [Ho.out.2]⟩
                | (simp [intOf]; omega)
            · cases A <;> cases C
              all_goals go_wp2
              all_goals go_roundw
              all_goals first
                | exact ⟨rfl, q + 1, by omega, by omega, by go_num, by rw [Ho.out.1], by rw [Ho.out.2]⟩
                | exact ⟨trivial, q + 1, by omega, by omega, by go_num, by rw [Ho.out.1], by rw [Ho.out.2]⟩
                | (simp [intOf]; omega)
        · have He := Hend q (by omega)
          have HT : Hid (oneTo m f n q = true → mixB (bSet S g l f n) l (k + 1) = (mixB (bSet S g l f n) l k).set k true) := hidIt (fun h => by rw [Hst.out, HgR.out, ← He.out.1, h]; rfl)
          have HN : Hid (oneTo m f n q = false → mixB (bSet S g l f n) l (k + 1) = mixB (bSet S g l f n) l k) := hidIt (fun h => (Hsame (by rw [HgR.out, ← He.out.1, h]; rfl)).out)
          have hq1 : ¬ (q < m + g ∧ q < S) := by omega
          clear Hend Hst Hsame HgR He
          generalize oneTo m f n q = A at *
          generalize allTo m f n q = C at *
          have hneb : ¬ w.heap.size = gb := by omega
          have hneb1 : ¬ w.heap.size + 1 = gb := by omega
          by_cases hq2 : q < m + g
          · have hq3 : S ≤ q := by omega
            cases A <;> cases C
            all_goals go_wp2
            all_goals go_roundw
            all_goals first
              | exact ⟨k + 1, by omega, by go_num, by rw [HN.out rfl]; exact hown, B4, B8, hF⟩
              | exact ⟨k + 1, by omega, by go_num, by rw [HT.out rfl, flatB_set]; exact owns_put hown k _, B4.other hneb _, B8.other hneb1 _, hF.setCell (.inr (by show w.heap.size ≤ gb; omega)) _⟩
              | (simp [intOf]; omega)
          · have hq3 : m + g ≤ q := by omega
            cases A <;> cases C
            all_goals go_wp2
            all_goals go_roundw
            all_goals first
              | exact ⟨k + 1, by omega, by go_num, by rw [HN.out rfl]; exact hown, B4, B8, hF⟩
              | exact ⟨k + 1, by omega, by go_num, by rw [HT.out rfl, flatB_set]; exact owns_put hown k _, B4.other hneb _, B8.other hneb1 _, hF.setCell (.inr (by show w.heap.size ≤ gb; omega)) _⟩
              | (simp [intOf]; omega)
    · have hke : k = l.length := by omega
      rw [hke, mixB_end HR.out] at hown
      clear hke
      go_wp2
      have hsl := fun (W : World) (h : W.ownsRow w1.heap.size 4 1 (.slice a2 l.length c2) l.length ((bSet S g l f n).flatMap boolC)) => (show SlB W (.slice a2 l.length c2) (bSet S g l f n) from SlF.of_owns (base := w1.heap.size) (e := 4) (size := 1) (by rw [HR.out]; exact h))
      exact bodyPost_ret (v := .tuple #[rb S g (.slice a2 l.length c2), .int .i64 0]) (by simp [results, Tryz.results40, go_sem, rb, b8]) rfl ⟨_, rfl, hsl _ (owns_setCell (owns_setCell (owns_setCell (owns_setCell hown (by simp; omega) _) (by simp; omega) _) (by simp; omega) _) (by simp; omega) _), okV.of_owns hown,
        (((hF.setCell (.inr (by simp)) _).setCell (.inr (by simp)) _).setCell (.inr (by simp)) _).setCell (.inr (by simp)) _, fun k hk => Nat.le_trans (show w.heap.size ≤ w1.heap.size by omega) (own_base hown k hk)⟩
end Go.Proofs.YtiifmakhfpllnaaGreat

namespace Go.Proofs.YtiifmakhfpllnaaGreat
open Go.RowKit Go.Maps

set_option maxRecDepth 100000 in
set_option maxHeartbeats 4000000 in
theorem rSet_false (S g : Nat) (v : Value) (l : List Bool) (f n : Nat) (w : World) (hv : SlB w v l) (hok : okV v) (hS : S ≤ 4096) (hg : 0 < g ∧ g ≤ 64) (hlen : l.length = gran S g) (hin : f + n ≤ S) :
    Calls Tryz.prog 40 #[.agg #[.int .i64 S, .int .i64 g, v], .int .i64 (f : Int), .int .i64 (n : Int), .bool false] w
      fun e w' => ∃ v', e = .returned (.tuple #[rb S g v', .int .i64 0]) ∧ SlB w' v' (bClear S g l f n) ∧ okV v' ∧ Fr [] w w' ∧ ∀ k, v'.ownBlock = some k → w.heap.size ≤ k := by
  have hle := gran_le hS hg.1
  have hins : decide (insideB S (f : Int) (n : Int)) = true := by simp [insideB]; omega
  have HR : Hid ((bClear S g l f n).length = l.length) := hidIt (by simp [bClear])
  obtain ⟨av, cv, rfl, _, _, _⟩ := hv.open
  have hle2 : l.length ≤ 4096 := by omega
  replace hlen := hidIt hlen
  go_enter Tryz.func40, Tryz.ntmps40
  go_wp2_with fail
  refine (inside_calls S g _ f n _ hS (by omega)).mono ?_
  rintro e w1 ⟨rfl, hf⟩
  rw [hins]
  have hF1 : Fr [] w w1 := (((Fr.refl _ w).alloc _).alloc _).trans0 hf
  have B4 : Blk w1 w.heap.size [.int .i64 S, .int .i64 g, .slice av l.length cv] 74 := ((Blk.new w [_, _, _] _).alloc _).fr0 hf
  have B8 : Blk w1 (w.heap.size + 1) [.int .i64 0, .int .i64 0, .slice none 0 0] 74 := (Blk.new' (by simp) [_, _, _] _).fr0 hf
  have hsz1 := hf.size
  simp only [World.size_alloc] at hsz1
  have hv1 := hv.fr0 hF1
  clear hf hv
  have b4 := B4.cell
  have l4 := B4.lt
  go_wp2_with (at_builtin; refine Hid.out ?_)
  refine hidIt ?_
  refine wpList_append_sl 72 4 (.bool false) 1 1 Tryz.underlying72 infoBool rfl (by decide) (by decide) rfl _ _ rfl w1.heap.size _ 0 _ rfl (World.ownsRow_made w1 _ 0 (Nat.le_refl _) (by decide) rfl) _ l.length (l.flatMap boolC) (Sl.fr0 hv1 ((Fr.refl _ _).alloc _)) hok (by rw [flatB_length, Nat.mul_one]) (flat_one (fun _ => bool_one) l) rfl (by omega) (by omega) (by simp) ?_
  intro v2 w2 hown2 hgrow
  rw [Nat.zero_add, List.nil_append] at hown2
  have hf2 : Fr [] w1 w2 := ((Fr.refl [] w1).alloc _).grown hgrow (fun x hx => .inr (by cases hx; exact Nat.le_refl _))
  replace hF := hF1.trans0 hf2
  have B42 := B4.fr0 hf2
  have B82 := B8.fr0 hf2
  clear B4 B8 b4 hf2 hgrow hF1 hok hv1
  obtain ⟨a2, c2, rfl, _, _, _⟩ := Sl.of_owns hown2
  go_wp2_with fail
  go_loopw [11] (fun i wr => ∃ k : Nat, k ≤ l.length ∧ i = .int .i64 k ∧ wr.ownsRow w1.heap.size 4 1 (.slice a2 l.length c2) l.length ((mixB (bClear S g l f n) l k).flatMap boolC) ∧
    Blk wr w.heap.size [.int .i64 S, .int .i64 g, .slice av l.length cv] 74 ∧ Blk wr (w.heap.size + 1) [.int .i64 0, .int .i64 0, .slice none 0 0] 74 ∧ Fr [] w wr) (fun i _ => l.length - (intOf i).toNat)
  case atStart => exact ⟨0, Nat.zero_le _, rfl, by rw [mixB_start]; exact hown2, B42, B82, hF⟩
  case round =>
    clear hF B42 B82 hown2
    obtain ⟨k, hk, rfl, hown, B4, B8, hF⟩ := hrel
    have b4 := B4.cell
    have f4 := B4.frozen
    have b8 := B8.cell
    have f8 := B8.frozen
    have hsz := hF.size
    generalize wr = wo at *
    by_cases hlt : k < l.length
    · have hkS : k * g < S := (ceil_lt hg.1).1 (by unfold gran at hlen; have := hlen.out; omega)
      have Hend := fun (s : Nat) (h : s = min (k * g + g) S) => hidIt (to_end (f := f) (n := n) h hkS hg.1)
      have Hst := hidIt (mixB_step (bClear S g l f n) l k hlt)
      have Hsame := fun h => hidIt (mixB_same (bClear S g l f n) l k hlt h)
      have HgR := hidIt (bClear_getD (S := S) (g := g) (f := f) (n := n) hlt)
      have hmlen := mixB_len (bClear S g l f n) l k
      obtain ⟨gb, cap, hva, hgb, _⟩ := owns_succ hown (by omega)
      cases hva
      have hck := owns_at hown (j := k) (u := .bool ((mixB (bClear S g l f n) l k).getD k false)) (by rw [flatB_at, getD_some false (by omega)]; rfl)
      obtain ⟨hcell, hfz⟩ := hck
      have hmul : (k : Int) * (g : Int) = ((k * g : Nat) : Int) := by simp
      generalize k * g = m at *
      have h1s := oneTo_start m f n
      have h2s := allTo_start m f n
      go_wp2_with fail
      go_loopw [12, 13, 14, 15] (fun o a s _ wr => wr = wo ∧ ∃ q : Nat, m ≤ q ∧ q ≤ min (m + g) S ∧ s = .int .i64 q ∧ o = .bool (oneTo m f n q) ∧ a = .bool (allTo m f n q)) (fun _ _ s _ _ => m + g - (intOf s).toNat)
      case atStart => exact ⟨rfl, m, Nat.le_refl _, by omega, rfl, by rw [h1s], by rw [h2s]⟩
      case round =>
        obtain ⟨rfl, q, hmq, hqe, rfl, rfl, rfl⟩ := hrel
        clear h1s h2s
        by_cases hq : q < min (m + g) S
        · clear Hst Hsame HgR hcell hfz hown
          have hq1 : q < m + g := by omega
          have hq2 : q < S := by omega
          by_cases hq3 : f ≤ q ∧ q < f + n
          · obtain ⟨hq3, hq4⟩ := hq3
            have Ho := hidIt (to_in (n := n) hmq hq3 hq4)
            have hq7 : (q : Int) < (f : Int) + (n : Int) := by omega
            clear Hend
            generalize oneTo m f n q = A at *
            generalize allTo m f n q = C at *
            cases A <;> cases C
            all_goals go_wp2
            all_goals go_roundw
            all_goals first
              | exact ⟨rfl, q + 1, by omega, by omega, by go_num, by rw [Ho.out.1], by rw [Ho.out.2]⟩
              | exact ⟨trivial, q + 1, by omega, by omega, by go_num, by rw [Ho.out.1], by rw [Ho.out.2]⟩
              | (simp [intOf]; omega)
          · have Ho := hidIt (to_out (f := f) (n := n) hmq hq3)
            clear Hend
            generalize oneTo m f n q = A at *
            generalize allTo m f n q = C at *
            by_cases hq5 : f ≤ q
            · have hq6 : ¬ (q : Int) < (f : Int) + (n : Int) := by omega
              cases A <;> cases C
              all_goals go_wp2
              all_goals go_roundw
              all_goals first
                | exact ⟨rfl, q + 1, by omega, by omega, by go_num, by rw [Ho.out.1], by rw [Ho.out.2]⟩
                | exact ⟨trivial, q + 1, by omega, by omega, by go_num, by rw [Ho.out.1], by rw [Ho.out.2]⟩
                | (simp [intOf]; omega)
            · cases A <;> cases C
              all_goals go_wp2
              all_goals go_roundw
              all_goals first
                | exact ⟨rfl, q + 1, by omega, by omega, by go_num, by rw [Ho.out.1], by rw [Ho.out.2]⟩
                | exact ⟨trivial, q + 1, by omega, by omega, by go_num, by rw [Ho.out.1], by rw [Ho.out.2]⟩
                | (simp [intOf]; omega)
        · have He := Hend q (by omega)
          have HT : Hid (allTo m f n q = true → mixB (bClear S g l f n) l (k + 1) = (mixB (bClear S g l f n) l k).set k false) := hidIt (fun h => by rw [Hst.out, HgR.out, ← He.out.2, h]; rfl)
          have HN : Hid (allTo m f n q = false → mixB (bClear S g l f n) l (k + 1) = mixB (bClear S g l f n) l k) := hidIt (fun h => (Hsame (by rw [HgR.out, ← He.out.2, h]; rfl)).out)
          have hq1 : ¬ (q < m + g ∧ q < S) := by omega
          clear Hend Hst Hsame HgR He
          generalize oneTo m f n q = A at *
          generalize allTo m f n q = C at *
          have hneb : ¬ w.heap.size = gb := by omega
          have hneb1 : ¬ w.heap.size + 1 = gb := by omega
          by_cases hq2 : q < m + g
          · have hq3 : S ≤ q := by omega
            cases A <;> cases C
            all_goals go_wp2
            all_goals go_roundw
            all_goals first
              | exact ⟨k + 1, by omega, by go_num, by rw [HN.out rfl]; exact hown, B4, B8, hF⟩
              | exact ⟨k + 1, by omega, by go_num, by rw [HT.out rfl, flatB_set]; exact owns_put hown k _, B4.other hneb _, B8.other hneb1 _, hF.setCell (.inr (by show w.heap.size ≤ gb; omega)) _⟩
              | (simp [intOf]; omega)
          · have hq3 : m + g ≤ q := by omega
            cases A <;> cases C
            all_goals go_wp2
            all_goals go_roundw
            all_goals first
              | exact ⟨k + 1, by omega, by go_num, by rw [HN.out rfl]; exact hown, B4, B8, hF⟩
              | exact ⟨k + 1, by omega, by go_num, by rw [HT.out rfl, flatB_set]; exact owns_put hown k _, B4.other hneb _, B8.other hneb1 _, hF.setCell (.inr (by show w.heap.size ≤ gb; omega)) _⟩
              | (simp [intOf]; omega)
    · have hke : k = l.length := by omega
      rw [hke, mixB_end HR.out] at hown
      clear hke
      go_wp2
      have hsl := fun (W : World) (h : W.ownsRow w1.heap.size 4 1 (.slice a2 l.length c2) l.length ((bClear S g l f n).flatMap boolC)) => (show SlB W (.slice a2 l.length c2) (bClear S g l f n) from SlF.of_owns (base := w1.heap.size) (e := 4) (size := 1) (by rw [HR.out]; exact h))
      exact bodyPost_ret (v := .tuple #[rb S g (.slice a2 l.length c2), .int .i64 0]) (by simp [results, Tryz.results40, go_sem, rb, b8]) rfl ⟨_, rfl, hsl _ (owns_setCell (owns_setCell (owns_setCell (owns_setCell hown (by simp; omega) _) (by simp; omega) _) (by simp; omega) _) (by simp; omega) _), okV.of_owns hown,
        (((hF.setCell (.inr (by simp)) _).setCell (.inr (by simp)) _).setCell (.inr (by simp)) _).setCell (.inr (by simp)) _, fun k hk => Nat.le_trans (show w.heap.size ≤ w1.heap.size by omega) (own_base hown k hk)⟩
end Go.Proofs.YtiifmakhfpllnaaGreat

namespace Go.Proofs.YtiifmakhfpllnaaGreat
open Go.RowKit Go.Maps

set_option maxRecDepth 100000 in
set_option maxHeartbeats 800000 in
theorem rSet_no (S g : Nat) (v : Value) (l : List Bool) (f n : Int) (d : Bool) (w : World) (hv : SlB w v l) (hS : S ≤ 4096) (fw : -9223372036854775808 ≤ n ∧ n ≤ 9223372036854775807) (hin : ¬ insideB S f n) :
    Calls Tryz.prog 40 #[.agg #[.int .i64 S, .int .i64 g, v], .int .i64 f, .int .i64 n, .bool d] w
      fun e w' => e = .returned (.tuple #[rb S g v, .int .i64 1]) ∧ Fr [] w w' := by
  have hins : decide (insideB S f n) = false := by simpa using hin
  obtain ⟨av, cv, rfl, _, _, _⟩ := hv.open
  clear hin hv
  generalize l.length = m at *
  go_enter Tryz.func40, Tryz.ntmps40
  go_wp2_with fail
  refine (inside_calls S g _ f n _ hS fw).mono ?_
  rintro e w1 ⟨rfl, hf⟩
  rw [hins]
  have hF1 : Fr [] w w1 := (((Fr.refl _ w).alloc _).alloc _).trans0 hf
  have B4 : Blk w1 w.heap.size [.int .i64 S, .int .i64 g, .slice av m cv] 74 := ((Blk.new w [_, _, _] _).alloc _).fr0 hf
  have B8 : Blk w1 (w.heap.size + 1) [.int .i64 0, .int .i64 0, .slice none 0 0] 74 := (Blk.new' (by simp) [_, _, _] _).fr0 hf
  have hsz1 := hf.size
  simp only [World.size_alloc] at hsz1
  clear hf
  have b4 := B4.cell
  have b8 := B8.cell
  have f8 := B8.frozen
  go_wp2
  exact bodyPost_ret (v := .tuple #[rb S g (.slice av m cv), .int .i64 1]) (by simp [results, Tryz.results40, go_sem, rb, b8]) rfl ⟨rfl, ((hF1.setCell (.inr (by simp)) _).setCell (.inr (by simp)) _).setCell (.inr (by simp)) _⟩
set_option maxRecDepth 100000 in
set_option maxHeartbeats 800000 in
theorem rResize_no (S g : Nat) (v : Value) (l : List Bool) (s : Int) (w : World) (hv : SlB w v l) (hs : okSec s = false) :
    Calls Tryz.prog 42 #[.agg #[.int .i64 S, .int .i64 g, v], .int .i64 s] w
      fun e w' => e = .returned (.tuple #[rb S g v, .int .i64 1]) ∧ Fr [] w w' := by
  have hno : okNew s g = false := by simp [okNew, hs]
  obtain ⟨av, cv, rfl, _, _, _⟩ := hv.open
  clear hs hv
  generalize l.length = m at *
  go_enter Tryz.func42, Tryz.ntmps42
  go_wp2_with fail
  refine (rNew_no s g _ hno).mono ?_
  rintro e w1 ⟨rfl, hf⟩
  unfold z0
  have hF1 : Fr [] w w1 := (((Fr.refl _ w).alloc _).alloc _).trans0 hf
  have B4 : Blk w1 w.heap.size [.int .i64 S, .int .i64 g, .slice av m cv] 74 := ((Blk.new w [_, _, _] _).alloc _).fr0 hf
  have B8 : Blk w1 (w.heap.size + 1) [.int .i64 0, .int .i64 0, .slice none 0 0] 74 := (Blk.new' (by simp) [_, _, _] _).fr0 hf
  have hsz1 := hf.size
  simp only [World.size_alloc] at hsz1
  clear hf
  have b4 := B4.cell
  have l4 := B4.lt
  have b8 := B8.cell
  have f8 := B8.frozen
  have l8 := B8.lt
  go_wp2
  exact bodyPost_ret (v := .tuple #[rb S g (.slice av m cv), .int .i64 1]) (by simp [results, Tryz.results42, go_sem, rb, b8, l8]) rfl ⟨rfl, (((hF1.setCell (.inr (by simp)) _).setCell (.inr (by simp)) _).setCell (.inr (by simp)) _).alloc _⟩
theorem rzB_getD {S g : Nat} {l : List Bool} {n k : Nat} (hg : 0 < g) (hl : l.length = gran S g) (hk : k < gran n g) :
    (rzB S g l n).getD k false = if S < k * g + g ∧ S < n then true else (decide (l.length ≤ k) || l.getD k false) := by
  have hkn : k * g < n := (ceil_lt hg).1 hk
  have hlk : l.length ≤ k ↔ S ≤ k * g := by rw [hl]; exact ceil_le hg
  unfold rzB
  by_cases h : S < n
  · rw [if_pos h, bSet_getD (by rw [cutB_len]; exact hk), cutB_getD, if_pos hk]
    by_cases h2 : S < k * g + g
    · rw [if_pos ⟨h2, h⟩]
      have : oneB n g S (n - S) k = true := by simp only [oneB, decide_eq_true_eq]; omega
      rw [this]; rfl
    · rw [if_neg (fun h => h2 h.1)]
      have h3 : oneB n g S (n - S) k = false := by simp only [oneB, decide_eq_false_iff_not]; omega
      have h4 : decide (l.length ≤ k) = false := by simp only [decide_eq_false_iff_not]; omega
      rw [h3, h4]
  · rw [if_neg h, cutB_getD, if_pos hk, if_neg (fun h' => h h'.2)]
    have h4 : decide (l.length ≤ k) = false := by simp only [decide_eq_false_iff_not]; omega
    rw [h4]; rfl
theorem rzB_len {S g : Nat} {l : List Bool} {n : Nat} : (rzB S g l n).length = gran n g := by
  unfold rzB
  split
  · simp [bSet, cutB_len]
  · exact cutB_len _ _
set_option maxRecDepth 100000 in
set_option maxHeartbeats 4000000 in
theorem rResize_yes (S g : Nat) (v : Value) (l : List Bool) (n : Nat) (w : World) (hv : SlB w v l) (hp : pow2 g = true) (hS : S ≤ 4096) (hn : n ≤ 4096) (hlen : l.length = gran S g) :
    Calls Tryz.prog 42 #[.agg #[.int .i64 S, .int .i64 g, v], .int .i64 (n : Int)] w
      fun e w' => ∃ v', e = .returned (.tuple #[rb n g v', .int .i64 0]) ∧ SlB w' v' (rzB S g l n) ∧ okV v' ∧ Fr [] w w' ∧ ∀ k, v'.ownBlock = some k → w.heap.size ≤ k := by
  have hg := pow2_le hp
  have hg0 : 0 < g := by omega
  have hle := gran_le hn hg0
  have hle1 := gran_le hS hg0
  obtain ⟨av, cv, rfl, _, _, _⟩ := hv.open
  have hle2 : l.length ≤ 4096 := by omega
  have HR : Hid ((rzB S g l n).length = (List.replicate (gran n g) false).length) := hidIt (by rw [rzB_len]; simp)
  replace hlen := hidIt hlen
  go_enter Tryz.func42, Tryz.ntmps42
  go_wp2_with fail
  refine (rNew_yes n g _ hn hp).mono ?_
  rintro e w1 ⟨v1, rfl, hown, hf⟩
  obtain ⟨a1, c1, rfl, _, _, _⟩ := Sl.of_owns hown
  unfold rb
  simp only [World.size_alloc] at hown
  have hF1 : Fr [] w w1 := (((Fr.refl _ w).alloc _).alloc _).trans0 hf
  have B2 : Blk w1 w.heap.size [.int .i64 S, .int .i64 g, .slice av l.length cv] 74 := ((Blk.new w [_, _, _] _).alloc _).fr0 hf
  have B4 : Blk w1 (w.heap.size + 1) [.int .i64 0, .int .i64 0, .slice none 0 0] 74 := (Blk.new' (by simp) [_, _, _] _).fr0 hf
  have hsz1 := hf.size
  simp only [World.size_alloc] at hsz1
  have hv1 := hv.fr0 hF1
  have B6 := Blk.new w1 [.int .i64 n, .int .i64 g, .slice a1 (gran n g) c1] 74
  have hF2 := hF1.alloc (.cells #[.int .i64 n, .int .i64 g, .slice a1 (gran n g) c1] 74)
  replace hown := hown.alloc (.cells #[.int .i64 n, .int .i64 g, .slice a1 (gran n g) c1] 74)
  replace B2 := B2.alloc (.cells #[.int .i64 n, .int .i64 g, .slice a1 (gran n g) c1] 74)
  replace B4 := B4.alloc (.cells #[.int .i64 n, .int .i64 g, .slice a1 (gran n g) c1] 74)
  clear hf hF1
  go_wp2_with fail
  go_loopw [8, 9] (fun i _ wr => ∃ k : Nat, k ≤ gran n g ∧ i = .int .i64 k ∧ wr.ownsRow (w.heap.size + 2) 4 1 (.slice a1 (gran n g) c1) (gran n g) ((mixB (rzB S g l n) (List.replicate (gran n g) false) k).flatMap boolC) ∧
    Blk wr w.heap.size [.int .i64 S, .int .i64 g, .slice av l.length cv] 74 ∧ Blk wr (w.heap.size + 1) [.int .i64 0, .int .i64 0, .slice none 0 0] 74 ∧
    Blk wr w1.heap.size [.int .i64 n, .int .i64 g, .slice a1 (gran n g) c1] 74 ∧ Fr [] w wr) (fun i _ _ => gran n g - (intOf i).toNat)
  case atStart => exact ⟨0, Nat.zero_le _, rfl, by rw [mixB_start]; exact hown, B2, B4, B6, hF2⟩
  case round =>
    clear hF2 B2 B4 B6 hown
    obtain ⟨k, hk, rfl, hown, B2, B4, B6, hF⟩ := hrel
    have b2 := B2.cell
    have b4 := B4.cell
    have f4 := B4.frozen
    have b6 := B6.cell
    have l2 := B2.lt
    have l4 := B4.lt
    have l6 := B6.lt
    by_cases hlt : k < gran n g
    · have hkm : k * g < n := (ceil_lt hg0).1 hlt
      have Hst := hidIt (mixB_step (rzB S g l n) (List.replicate (gran n g) false) k (by simp; exact hlt))
      have HgR := hidIt (rzB_getD (S := S) (l := l) hg0 hlen.out hlt)
      obtain ⟨gb, cap, hva, hgb, _⟩ := owns_succ hown (by omega)
      cases hva
      have hml : (mixB (rzB S g l n) (List.replicate (gran n g) false) k).length = gran n g := by rw [mixB_len]; simp
      obtain ⟨hcell, hfz⟩ := owns_at hown (j := k) (u := .bool ((mixB (rzB S g l n) (List.replicate (gran n g) false) k).getD k false)) (by rw [flatB_at, getD_some false (by omega)]; rfl)
      have hneb : ¬ w.heap.size = gb := by omega
      have hneb1 : ¬ w.heap.size + 1 = gb := by omega
      have hmul : (k : Int) * (g : Int) = ((k * g : Nat) : Int) := by simp
      generalize k * g = m at *
      have hne6 : ¬ w1.heap.size = gb := by
        rintro rfl
        have h1 := (hown.lt w1.heap.size rfl)
        rcases hown.2 with ⟨h2, _⟩ | ⟨g', cap', cur, h2, _, h3, _⟩
        · cases h2
        · cases h2
          have := h3.symm.trans B6
          cases this
      generalize mixB (rzB S g l n) (List.replicate (gran n g) false) k = M at *
      generalize gran n g = G at *
      by_cases h1 : k < l.length
      · obtain ⟨b, off, hab, hb, c0⟩ := SlB.at (hv.fr0 hF) h1
        cases hab
        generalize l.getD k false = q at *
        by_cases h2 : S < m + g
        · by_cases h3 : S < n
          · rw [if_pos ⟨h2, h3⟩] at HgR
            rw [HgR.out] at Hst
            clear HgR hlen HR
            go_wp2_with fail
            refine wp_region_still_tail 16 follows (by as_aux_lemma => kernel_rfl) ?_
            simp only [List.take_succ_cons, List.take_zero, List.drop_succ_cons, List.drop_zero]
            change wpStill _ _ (World.drew _) _ _ _
            iterate 16 still_step
            refine wpStill_nil ?_
            change wpList _ _ _ _ _ (World.drew _)
            go_wp2
            exact ⟨⟨k + 1, by omega, by go_num, by rw [Hst.out, flatB_set, ← List.set_set (a := Value.bool (decide (l.length ≤ k) || q))]; exact owns_drew (owns_put (owns_put hown k (.bool (decide (l.length ≤ k) || q))) k (.bool true)), ((B2.other hneb _).other hneb _).drew, ((B4.other hneb1 _).other hneb1 _).drew, ((B6.other hne6 _).other hne6 _).drew, ((hF.setCell (.inr (by show w.heap.size ≤ gb; omega)) _).setCell (.inr (by show w.heap.size ≤ gb; omega)) _).drew⟩, by simp [intOf]; omega⟩
          · rw [if_neg (fun h => h3 h.2)] at HgR
            rw [HgR.out] at Hst
            clear HgR hlen HR
            go_wp2_with fail
            refine wp_region_still_tail 16 follows (by as_aux_lemma => kernel_rfl) ?_
            simp only [List.take_succ_cons, List.take_zero, List.drop_succ_cons, List.drop_zero]
            change wpStill _ _ (World.drew _) _ _ _
            iterate 16 still_step
            refine wpStill_nil ?_
            change wpList _ _ _ _ _ (World.drew _)
            go_wp2
            exact ⟨⟨k + 1, by omega, by go_num, by rw [Hst.out, flatB_set]; exact owns_drew (owns_put hown k _), (B2.other hneb _).drew, (B4.other hneb1 _).drew, (B6.other hne6 _).drew, (hF.setCell (.inr (by show w.heap.size ≤ gb; omega)) _).drew⟩, by simp [intOf]; omega⟩
        · rw [if_neg (fun h => h2 h.1)] at HgR
          rw [HgR.out] at Hst
          clear HgR hlen HR
          go_wp2_with fail
          refine wp_region_still_tail 16 follows (by as_aux_lemma => kernel_rfl) ?_
          simp only [List.take_succ_cons, List.take_zero, List.drop_succ_cons, List.drop_zero]
          change wpStill _ _ (World.drew _) _ _ _
          iterate 16 still_step
          refine wpStill_nil ?_
          change wpList _ _ _ _ _ (World.drew _)
          go_wp2
          exact ⟨⟨k + 1, by omega, by go_num, by rw [Hst.out, flatB_set]; exact owns_drew (owns_put hown k _), (B2.other hneb _).drew, (B4.other hneb1 _).drew, (B6.other hne6 _).drew, (hF.setCell (.inr (by show w.heap.size ≤ gb; omega)) _).drew⟩, by simp [intOf]; omega⟩
      · have hdk : decide (l.length ≤ k) = true := by simp; omega
        rw [hdk, Bool.true_or] at HgR
        clear hdk
        by_cases h2 : S < m + g
        · by_cases h3 : S < n
          · rw [if_pos ⟨h2, h3⟩] at HgR
            rw [HgR.out] at Hst
            clear HgR hlen HR
            go_wp2_with fail
            refine wp_region_still_tail 16 follows (by as_aux_lemma => kernel_rfl) ?_
            simp only [List.take_succ_cons, List.take_zero, List.drop_succ_cons, List.drop_zero]
            change wpStill _ _ (World.drew _) _ _ _
            iterate 16 still_step
            refine wpStill_nil ?_
            change wpList _ _ _ _ _ (World.drew _)
            go_wp2
            exact ⟨⟨k + 1, by omega, by go_num, by rw [Hst.out, flatB_set, ← List.set_set (a := Value.bool (true))]; exact owns_drew (owns_put (owns_put hown k (.bool (true))) k (.bool true)), ((B2.other hneb _).other hneb _).drew, ((B4.other hneb1 _).other hneb1 _).drew, ((B6.other hne6 _).other hne6 _).drew, ((hF.setCell (.inr (by show w.heap.size ≤ gb; omega)) _).setCell (.inr (by show w.heap.size ≤ gb; omega)) _).drew⟩, by simp [intOf]; omega⟩
          · rw [if_neg (fun h => h3 h.2)] at HgR
            rw [HgR.out] at Hst
            clear HgR hlen HR
            go_wp2_with fail
            refine wp_region_still_tail 16 follows (by as_aux_lemma => kernel_rfl) ?_
            simp only [List.take_succ_cons, List.take_zero, List.drop_succ_cons, List.drop_zero]
            change wpStill _ _ (World.drew _) _ _ _
            iterate 16 still_step
            refine wpStill_nil ?_
            change wpList _ _ _ _ _ (World.drew _)
            go_wp2
            exact ⟨⟨k + 1, by omega, by go_num, by rw [Hst.out, flatB_set]; exact owns_drew (owns_put hown k _), (B2.other hneb _).drew, (B4.other hneb1 _).drew, (B6.other hne6 _).drew, (hF.setCell (.inr (by show w.heap.size ≤ gb; omega)) _).drew⟩, by simp [intOf]; omega⟩
        · rw [if_neg (fun h => h2 h.1)] at HgR
          rw [HgR.out] at Hst
          clear HgR hlen HR
          go_wp2_with fail
          refine wp_region_still_tail 16 follows (by as_aux_lemma => kernel_rfl) ?_
          simp only [List.take_succ_cons, List.take_zero, List.drop_succ_cons, List.drop_zero]
          change wpStill _ _ (World.drew _) _ _ _
          iterate 16 still_step
          refine wpStill_nil ?_
          change wpList _ _ _ _ _ (World.drew _)
          go_wp2
          exact ⟨⟨k + 1, by omega, by go_num, by rw [Hst.out, flatB_set]; exact owns_drew (owns_put hown k _), (B2.other hneb _).drew, (B4.other hneb1 _).drew, (B6.other hne6 _).drew, (hF.setCell (.inr (by show w.heap.size ≤ gb; omega)) _).drew⟩, by simp [intOf]; omega⟩
    · have hke : k = gran n g := by omega
      have hend := mixB_end HR.out
      rw [List.length_replicate] at hend
      rw [hke, hend] at hown
      clear hke hend
      go_wp2
      have hsl := fun (W : World) (h : W.ownsRow (w.heap.size + 2) 4 1 (.slice a1 (gran n g) c1) (gran n g) ((rzB S g l n).flatMap boolC)) => (show SlB W (.slice a1 (gran n g) c1) (rzB S g l n) from SlF.of_owns (base := w.heap.size + 2) (e := 4) (size := 1) (by rw [rzB_len]; exact h))
      exact bodyPost_ret (v := .tuple #[rb n g (.slice a1 (gran n g) c1), .int .i64 0]) (by simp [results, Tryz.results42, go_sem, rb, b4]) rfl ⟨_, rfl, hsl _ (owns_setCell (owns_setCell (owns_setCell hown (by simp) _) (by simp) _) (by simp) _), okV.of_owns hown,
        ((hF.setCell (.inr (by simp)) _).setCell (.inr (by simp)) _).setCell (.inr (by simp)) _, fun k hk => by have := own_base hown k hk; omega⟩
end Go.Proofs.YtiifmakhfpllnaaGreat
