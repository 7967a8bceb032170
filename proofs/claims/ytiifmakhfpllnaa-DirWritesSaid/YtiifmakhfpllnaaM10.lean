/-
  law10.made, where there are such bits.
-/
import Derived.Test.YtiifmakhfpllnaaM09
import Derived.Test.YtiifmakhfpllnaaM06
import Derived.Test.YtiifmakhfpllnaaM05
import Derived.ChangeKeysEq
import Derived.Test.YtiifmakhfpllnaaM00
import Derived.Deep.RegionWith
import Derived.OrdersHeld
namespace Go.Proofs.Ytiifmakhfpllnaa
open Go.RowKit Go.Maps

theorem RefB.keep {w w' : World} {S g : Nat} {u : Value} {l : List Bool} (h : RefB w (rb S g u) S g l) {b : Nat} {cs : List Value} {t : TypeId} (B : Blk w b cs t) (hcs : ∀ x ∈ cs, ∀ q, x ≠ .bool q) (hf : Fr [b] w w') : RefB w' (rb S g u) S g l := by
  obtain ⟨u1, h1, h2, h3⟩ := h.row
  exact ⟨⟨u1, h1, SlB.keep h2 B hcs hf, h3⟩, h.size, h.grain, h.len⟩
theorem SlB.frM {w w' : World} {v : Value} {l : List Bool} (h : SlB w v l) {mb : Nat} {x : Array MapEntry × Nat} (hm : mapAt w mb = some x) (hf : Fr [mb] w w') : SlB w' v l := by
  obtain ⟨a, cap, rfl, h1, h2, hc⟩ := h
  refine ⟨a, cap, rfl, h1, h2, ?_⟩
  cases l with
  | nil => exact .inl rfl
  | cons y l =>
    rcases hc with he | ⟨b', off, rfl, hb, hc⟩
    · simp at he
    · refine SlC.fr (.inr ⟨b', off, rfl, hb, hc⟩) hf fun p hp hmm => ?_
      cases hp
      have hbb : b' = mb := by simpa using hmm
      subst hbb
      have h0 := hc 0 (.bool y) (by simp)
      obtain ⟨es, c⟩ := x
      simp [World.cell?, mapAt_some.1 hm] at h0
theorem SlB.frT {w w' : World} {v : Value} {l l' : List Bool} {tb mb S g : Nat} (h : SlB w v l) (hW : BitW w tb mb S g l') (hf : Fr [tb, mb] w w') : SlB w' v l := by
  obtain ⟨a, cap, rfl, h1, h2, hc⟩ := h
  refine ⟨a, cap, rfl, h1, h2, ?_⟩
  cases l with
  | nil => exact .inl rfl
  | cons y l =>
    rcases hc with he | ⟨b', off, rfl, hb, hc⟩
    · simp at he
    · refine SlC.fr (.inr ⟨b', off, rfl, hb, hc⟩) hf fun p hp hmm => ?_
      cases hp
      have h0 := hc 0 (.bool y) (by simp)
      rcases List.mem_cons.1 hmm with hbb | hbb
      · have hbb : b' = tb := hbb
        subst hbb
        rw [Nat.add_zero, hW.blk.cell off] at h0
        have := List.mem_of_getElem? h0
        simp at this
      · have hbb : b' = mb := by simpa using hbb
        subst hbb
        obtain ⟨es, c, hm, _⟩ := hW.map
        simp [World.cell?, mapAt_some.1 hm] at h0
theorem RefB.frT {w w' : World} {v : Value} {l l' : List Bool} {tb mb S g S' g' : Nat} (h : RefB w v S g l) (hW : BitW w tb mb S' g' l') (hf : Fr [tb, mb] w w') : RefB w' v S g l := by
  obtain ⟨u1, h1, h2, h3⟩ := h.row
  exact ⟨⟨u1, h1, h2.frT hW hf, h3⟩, h.size, h.grain, h.len⟩
theorem fewS_len {s : Int} {l : List Op3} (h : fewS s l = true) : l.length ≤ 60 := by
  unfold fewS at h
  simp only [Bool.and_eq_true, decide_eq_true_eq] at h
  exact h.2.1
end Go.Proofs.Ytiifmakhfpllnaa

namespace Go.Proofs.Ytiifmakhfpllnaa
open Go.RowKit Go.Maps

set_option maxRecDepth 100000 in
set_option maxHeartbeats 800000 in
theorem rIs_calls (S g : Nat) (u : Value) (l : List Bool) (s : Int) (w : World) (hu : SlB w u l) (hS : S ≤ 4096) (hg : 0 < g ∧ g ≤ 64) (hlen : l.length = gran S g) :
    Calls Try.prog 82 #[.agg #[.int .i64 S, .int .i64 g, u], .int .i64 s] w fun e w' => e = .returned (.bool (isB S g l s)) ∧ Fr [] w w' := by
  have hg0 : (0 : Int) < g := by omega
  have hgn : ¬ (g : Int) = 0 := by omega
  have hgz : ¬ g = 0 := by omega
  have hle := gran_le hS hg.1
  obtain ⟨a, cap, rfl, _, _, _⟩ := hu.open
  have Hd : Hid (isB S g l s = (decide (0 ≤ s) && decide (s < S) && l.getD (s.toNat / g) false)) := hidIt rfl
  have B2 := Blk.new w [.int .i64 S, .int .i64 g, .slice a l.length cap] 78
  have b2 := B2.cell
  have hu2 := SlF.fr0 hu ((Fr.refl _ _).alloc (.cells #[.int .i64 S, .int .i64 g, .slice a l.length cap] 78))
  by_cases h0 : 0 ≤ s
  · obtain ⟨n, rfl⟩ := Int.eq_ofNat_of_zero_le h0
    by_cases h1' : n < S
    · have hq : Int.tdiv (n : Int) g = ((n / g : Nat) : Int) := Int.ofNat_tdiv n g
      have hkn := Nat.div_le_self n g
      have hkl : n / g < l.length := by rw [hlen]; exact gran_at hg.1 h1'
      obtain ⟨b, off, hab, hb, c0⟩ := SlB.at hu2 hkl
      cases hab
      have Hd2 : Hid (isB S g l n = l.getD (n / g) false) := hidIt (by rw [Hd.out]; simp [h1'])
      replace hlen := hidIt hlen
      generalize n / g = k at *
      have hqw : IntKind.i64.wrap (k : Int) = (k : Int) := IntWalk.i64_in _ (by omega)
      generalize l.getD k false = q at *
      go_enter Try.func82, Try.ntmps82
      go_wp2_with fail
      go_quiet (fail)
      go_wp2
      go_ret
      exact ⟨ret_bool (by rw [Hd2.out]), ((Fr.refl _ _).alloc _).drewN _⟩
    · replace hlen := hidIt hlen
      go_enter Try.func82, Try.ntmps82
      go_wp2_with fail
      go_quiet (fail)
      go_wp2
      go_ret
      exact ⟨ret_bool (by rw [Hd.out]; simp [h1']), ((Fr.refl _ _).alloc _).drewN _⟩
  · have hd : decide (0 ≤ s) = false := by simp; omega
    replace hlen := hidIt hlen
    go_enter Try.func82, Try.ntmps82
    go_wp2_with fail
    go_quiet (fail)
    go_wp2
    go_ret
    exact ⟨ret_bool (by rw [Hd.out, hd]; rfl), ((Fr.refl _ _).alloc _).drewN _⟩
end Go.Proofs.Ytiifmakhfpllnaa

namespace Go.Proofs.Ytiifmakhfpllnaa
open Go.RowKit Go.Maps

theorem midE.len {ks : List Int} {out : List Op3} {f k : Nat} (h : midE ks out f k) : out.length < k := by
  have h1 := (RightE.of (ks.take k)).len
  rw [h.2.2, List.length_append, List.length_take] at h1
  have := h.2.1
  simp at h1
  omega
set_option maxRecDepth 100000 in
set_option maxHeartbeats 1600000 in
theorem rOf_calls (v : Value) (ks : List Int) (w : World) (hv : SlI w v ks) (hn : ks.length ≤ 4096) : Calls Try.prog 83 #[v] w fun e w' => ∃ v', e = .returned v' ∧ SlP w' v' (ofE ks) ∧ Fr [] w w' := by
  obtain ⟨a, cap, rfl, hlc, hcm, _⟩ := hv.open
  unfold maxLen at hcm
  have hle : (ks.length : Int) ≤ 65536 := by omega
  go_enter Try.func83, Try.ntmps83
  go_wp2_with fail
  go_loopw [3, 4, 5] (fun o fr k wr => ∃ (O : List Op3) (f n : Nat), fr = .int .i64 f ∧ k = .int .i64 n ∧ wr.ownsRow w.heap.size 117 3 o O.length (O.flatMap op3C) ∧ (midE ks O f n ∨ (n = ks.length + 1 ∧ O = ofE ks)) ∧ Fr [] w wr) (fun _ _ k _ => ks.length + 1 - (intOf k).toNat)
  case atStart =>
    refine ⟨[], 0, 1, rfl, rfl, World.ownsRow_nil _ _ _ _, ?_, Fr.refl _ _⟩
    by_cases h : 0 < ks.length
    · exact .inl (midE.start h)
    · have : ks = [] := List.eq_nil_of_length_eq_zero (by omega)
      subst this
      exact .inr ⟨rfl, rfl⟩
  case round =>
    obtain ⟨O, f, n, rfl, rfl, hown, hst, hF⟩ := hrel
    rcases hst with hmid | ⟨hn1, hO⟩
    · have hol := hmid.len
      have hfn := hmid.1
      have hnl := hmid.2.1
      have hob := own_base hown
      have hsz := hF.size
      obtain ⟨b, off, rfl, hb, c0⟩ := SlI.at (hv.fr0 hF) (i := f) (by omega)
      by_cases he : n = ks.length
      · have Hd : Hid (O ++ [((f : Int), (n : Int) - f, ks.getD f 0)] = ofE ks) := hidIt (by have := hmid; rw [he] at this ⊢; exact this.done)
        subst he
        generalize ks.getD f 0 = y at *
        clear hmid
        go_wp2_with fail
        go_quiet (fail)
        go_wp2_with (at_builtin; refine Hid.out ?_)
        refine hidIt ?_
        refine wpList_append1 86 117 (.agg #[.int .i64 0, .int .i64 0, .int .i64 0]) 3 24 Try.underlying86 infoExt rfl (by decide) (by decide) rfl _ _ rfl w.heap.size u3 O.length (O.flatMap op3C) rfl ((owns_drewN hown _).alloc _) (op3C ((f : Int), (ks.length : Int) - f, y)) rfl ext_one wr.heap.size rfl (Blk.new _ _ _) (by omega) (by simp; omega) ?_
        intro v' w2 hown2 hgrow hloc
        go_frame
        go_wp2
        go_roundw
        case rel =>
          refine ⟨O ++ [((f : Int), (ks.length : Int) - f, y)], ks.length, ks.length + 1, rfl, by go_num, ?_, .inr ⟨rfl, Hd.out⟩, ((hF.drewN _).alloc _).grown hgrow (fun x hx => .inr (hob x hx))⟩
          simp only [List.length_append, List.length_singleton, List.flatMap_append, List.flatMap_cons, List.flatMap_nil, List.append_nil]
          exact hown2
        case measure => simp [intOf] <;> omega
      · have hnl2 : n < ks.length := by omega
        have hbn : ((n : Int) == (ks.length : Int)) = false := by simp; omega
        obtain ⟨b1, off1, hab, hb1, c1⟩ := SlI.at (hv.fr0 hF) hnl2
        cases hab
        by_cases hxy : ks.getD n 0 = ks.getD f 0
        · have Hm := hidIt (hmid.same hnl2 hxy)
          rw [hxy] at c1
          generalize ks.getD f 0 = y at *
          clear hmid hxy
          go_wp2_with fail
          go_quiet (fail)
          go_wp2
          go_roundw
          case rel => exact ⟨O, f, n + 1, rfl, by go_num, hown, .inl Hm.out, hF.drewN _⟩
          case measure => simp [intOf] <;> omega
        · have Hm := hidIt (hmid.turn hnl2 hxy)
          generalize ks.getD f 0 = y at *
          generalize ks.getD n 0 = z at *
          clear hmid
          go_wp2_with fail
          go_quiet (fail)
          go_wp2_with (at_builtin; refine Hid.out ?_)
          refine hidIt ?_
          refine wpList_append1 86 117 (.agg #[.int .i64 0, .int .i64 0, .int .i64 0]) 3 24 Try.underlying86 infoExt rfl (by decide) (by decide) rfl _ _ rfl w.heap.size u3 O.length (O.flatMap op3C) rfl ((owns_drewN hown _).alloc _) (op3C ((f : Int), (n : Int) - f, y)) rfl ext_one wr.heap.size rfl (Blk.new _ _ _) (by omega) (by simp; omega) ?_
          intro v' w2 hown2 hgrow hloc
          go_frame
          go_wp2
          go_roundw
          case rel =>
            refine ⟨O ++ [((f : Int), (n : Int) - f, y)], n, n + 1, rfl, by go_num, ?_, .inl Hm.out, ((hF.drewN _).alloc _).grown hgrow (fun x hx => .inr (hob x hx))⟩
            simp only [List.length_append, List.length_singleton, List.flatMap_append, List.flatMap_cons, List.flatMap_nil, List.append_nil]
            exact hown2
          case measure => simp [intOf] <;> omega
    · have Ho : Hid (O = ofE ks) := hidIt hO
      clear hO
      have hnle : ¬ (n : Int) ≤ (ks.length : Int) := by omega
      go_wp2
      go_ret
      exact ⟨u3, rfl, by rw [← Ho.out]; exact SlF.of_owns hown, hF⟩
end Go.Proofs.Ytiifmakhfpllnaa

namespace Go.Proofs.Ytiifmakhfpllnaa
open Go.RowKit Go.Maps

set_option maxRecDepth 100000 in
set_option maxHeartbeats 1600000 in
theorem rRow_calls (S g : Nat) (u : Value) (l : List Bool) (w : World) (hu : SlB w u l) (hS : S ≤ 4096) (hg : 0 < g ∧ g ≤ 64) (hlen : l.length = gran S g) :
    Calls Try.prog 47 #[.agg #[.int .i64 S, .int .i64 g, u]] w fun e w' => ∃ v', e = .returned v' ∧ SlP w' v' (ofE (kindsB S g l S)) ∧ Fr [] w w' := by
  obtain ⟨a, cap, rfl, _, _, _⟩ := hu.open
  have hlen' := hidIt hlen
  clear hlen
  have B1 := Blk.new w [.int .i64 S, .int .i64 g, .slice a l.length cap] 78
  have hF1 := (Fr.refl [] w).alloc (.cells #[.int .i64 S, .int .i64 g, .slice a l.length cap] 78)
  go_enter Try.func47, Try.ntmps47
  go_wp2_with fail
  go_loopw [3, 4] (fun v i wr => ∃ n : Nat, n ≤ S ∧ i = .int .i64 n ∧ wr.ownsRow (w.heap.size + 1) 3 1 v n ((kindsB S g l n).flatMap intC) ∧ Blk wr w.heap.size [.int .i64 S, .int .i64 g, .slice a l.length cap] 78 ∧ Fr [] w wr) (fun _ i _ => S - (intOf i).toNat)
  case atStart => exact ⟨0, Nat.zero_le _, rfl, World.ownsRow_nil _ _ _ _, B1, hF1⟩
  case round =>
    clear B1 hF1
    obtain ⟨n, hnl, rfl, hown, B1, hF⟩ := hrel
    have b1 := B1.cell
    by_cases hlt : n < S
    · have Hst := hidIt (kindsB_succ S g l n)
      generalize kindsB S g l n = K at *
      go_wp2_with fail
      refine (rIs_calls S g _ l n _ (SlF.fr0 hu hF) hS hg hlen'.out).mono ?_
      rintro e w2 ⟨rfl, hf2⟩
      have hown2 := owns_fr hown hf2 (by simp)
      have hF2 := hF.trans0 hf2
      have B2 := B1.fr0 hf2
      have hob := own_base hown2
      have hsz := hF2.size
      have hbl := B2.lt
      clear hown hF hf2 B1 b1
      generalize isB S g l (n : Int) = q at *
      cases q
      · go_wp2_with (at_builtin; refine Hid.out ?_)
        refine hidIt ?_
        refine wpList_append1 118 3 (.int .i64 0) 1 8 Try.underlying118 infoInt rfl (by decide) (by decide) rfl _ _ rfl (w.heap.size + 1) u3 n (K.flatMap intC) rfl (hown2.alloc _) (intC 0) rfl int_one w2.heap.size rfl (Blk.new _ _ _) (by omega) (by simp; omega) ?_
        intro v' w3 hown3 hgrow hloc
        go_frame
        go_wp2
        go_roundw
        case rel => exact ⟨n + 1, by omega, by go_num, by rw [Hst.out]; simpa using hown3, (B2.alloc _).fr (Fr.of_grown hgrow) (own_notin hown2 (by omega)), (hF2.alloc _).grown hgrow (fun x hx => .inr (by have := hob x hx; omega))⟩
        case measure => simp [intOf]; omega
      · go_wp2_with (at_builtin; refine Hid.out ?_)
        refine hidIt ?_
        refine wpList_append1 118 3 (.int .i64 0) 1 8 Try.underlying118 infoInt rfl (by decide) (by decide) rfl _ _ rfl (w.heap.size + 1) u3 n (K.flatMap intC) rfl (hown2.alloc _) (intC 1) rfl int_one w2.heap.size rfl (Blk.new _ _ _) (by omega) (by simp; omega) ?_
        intro v' w3 hown3 hgrow hloc
        go_frame
        go_wp2
        go_roundw
        case rel => exact ⟨n + 1, by omega, by go_num, by rw [Hst.out]; simpa using hown3, (B2.alloc _).fr (Fr.of_grown hgrow) (own_notin hown2 (by omega)), (hF2.alloc _).grown hgrow (fun x hx => .inr (by have := hob x hx; omega))⟩
        case measure => simp [intOf]; omega
    · have hke : n = S := by omega
      subst hke
      have hsl : SlI wr u3 (kindsB n g l n) := SlF.of_owns (base := w.heap.size + 1) (e := 3) (size := 1) (by rw [kindsB_len]; exact hown)
      have hkl := kindsB_len n g l n
      go_wp2_with fail
      refine (rOf_calls u3 _ _ hsl (by omega)).mono ?_
      rintro e w2 ⟨v2, rfl, hs2, hf2⟩
      go_wp2
      go_ret
      exact ⟨v2, rfl, hs2, hF.trans0 hf2⟩
end Go.Proofs.Ytiifmakhfpllnaa

namespace Go.Proofs.Ytiifmakhfpllnaa
open Go.RowKit Go.Maps

def eE (a b : Op3) : Bool := decide (a.1 = b.1) && (decide (a.2.1 = b.2.1) && decide (a.2.2 = b.2.2))
theorem eE_iff {a b : Op3} : eE a b = true ↔ a = b := by
  obtain ⟨a1, a2, a3⟩ := a
  obtain ⟨b1, b2, b3⟩ := b
  simp [eE]
theorem fieldsExt (f : Array Field) (h : f = #[{ name := "From", type := 3, offset := 0, embedded := false, tag := "", pkgPath := "", byteOffset := 0 }, { name := "Long", type := 3, offset := 1, embedded := false, tag := "", pkgPath := "", byteOffset := 8 }, { name := "Kind", type := 3, offset := 2, embedded := false, tag := "", pkgPath := "", byteOffset := 16 }])
    (d : Nat) (a b : Op3) (w : World) : (Op.eqFields (d + 1) (op3C a).toArray (op3C b).toArray f.toList).run Try.prog w = .ok (eE a b) w := by
  obtain ⟨a1, a2, a3⟩ := a
  obtain ⟨b1, b2, b3⟩ := b
  rw [h]
  unfold eE
  by_cases h1 : a1 = b1 <;> by_cases h2 : a2 = b2 <;> by_cases h3 : a3 = b3 <;> simp [Op.eqFields, go_sem, h1, h2, h3, Try.underlying3]
theorem equalExt0 (a b c a' b' c' : Int) (w : World) :
    (Op.equalIn 10000 117 (.agg #[.int .i64 a, .int .i64 b, .int .i64 c]) (.agg #[.int .i64 a', .int .i64 b', .int .i64 c'])).run Try.prog w = .ok (eE (a, b, c) (a', b', c')) w := by
  rw [run_equalIn_struct (P := Try.prog) w 9999 117 _ _ (by kernel_rfl) (by kernel_rfl)]
  exact fieldsExt _ (by kernel_rfl) 9998 (a, b, c) (a', b', c') w
attribute [local go_sem high] equalExt0
set_option maxRecDepth 100000 in
set_option maxHeartbeats 1600000 in
theorem SameExt_calls (v u : Value) (A B : List Op3) (w : World) (hv : SlP w v A) (hu : SlP w u B) : Calls Try.prog 45 #[v, u] w fun e w' => e = .returned (.bool (decide (A = B))) ∧ Fr [] w w' := by
  obtain ⟨a, cap, rfl, hlc, hcm, _⟩ := hv.open
  obtain ⟨a', cap', rfl, hlc', hcm', _⟩ := hu.open
  unfold maxLen at hcm hcm'
  by_cases hl : A.length = B.length
  · have Hy : Hid ((∀ j, j < A.length → A.getD j z3 = B.getD j z3) → decide (A = B) = true) := hidIt (fun h => by
      have : A = B := by
        apply List.ext_getElem hl
        intro i h1 h2
        have := h i h1
        rwa [List.getD_eq_getElem?_getD, List.getD_eq_getElem?_getD, List.getElem?_eq_getElem h1, List.getElem?_eq_getElem h2] at this
      simp [this])
    have Hn : Hid (∀ j, A.getD j z3 ≠ B.getD j z3 → decide (A = B) = false) := hidIt (fun j h => by simp; rintro rfl; exact h rfl)
    generalize decide (A = B) = res at *
    have hl' : B.length = A.length := hl.symm
    clear hl
    rw [hl'] at hlc'
    go_enter Try.func45, Try.ntmps45
    go_wp2_with fail
    go_loopw [5] (fun i wr => ∃ k : Nat, k ≤ A.length ∧ i = .int .i64 k ∧ Hid (∀ j, j < k → A.getD j z3 = B.getD j z3) ∧ Fr [] w wr) (fun i _ => A.length - (intOf i).toNat)
    case atStart => exact ⟨0, Nat.zero_le _, rfl, hidIt (fun j h => by omega), Fr.refl _ _⟩
    case round =>
      obtain ⟨k, hk, rfl, hall, hF⟩ := hrel
      by_cases hlt : k < A.length
      · obtain ⟨b, off, rfl, hb, c0, c1, c2⟩ := SlP.at (hv.fr0 hF) hlt
        obtain ⟨b', off', rfl, hb', d0, d1, d2⟩ := SlP.at (hu.fr0 hF) (i := k) (by omega)
        by_cases he : A.getD k z3 = B.getD k z3
        · have Hs : Hid (∀ j, j < k + 1 → A.getD j z3 = B.getD j z3) := hidIt (fun j hj => by
            by_cases h : j = k
            · subst h; exact he
            · exact hall.out j (by omega))
          have hE := eE_iff.2 he
          generalize A.getD k z3 = x at *
          generalize B.getD k z3 = y at *
          obtain ⟨x1, x2, x3⟩ := x
          obtain ⟨y1, y2, y3⟩ := y
          simp only at c0 c1 c2 d0 d1 d2
          clear he hall Hy Hn
          go_wp2_with fail
          go_quiet (fail)
          go_wp2
          go_roundw
          case rel => exact ⟨k + 1, by omega, by go_num, Hs, hF.drewN _⟩
          case measure => simp [intOf]; omega
        · have Hr := hidIt (Hn.out k he)
          have hE : eE (A.getD k z3) (B.getD k z3) = false := by
            rw [Bool.eq_false_iff]; exact fun h => he (eE_iff.1 h)
          generalize A.getD k z3 = x at *
          generalize B.getD k z3 = y at *
          obtain ⟨x1, x2, x3⟩ := x
          obtain ⟨y1, y2, y3⟩ := y
          simp only at c0 c1 c2 d0 d1 d2
          clear he hall Hy Hn
          go_wp2_with fail
          go_quiet (fail)
          go_wp2
          go_ret
          exact ⟨ret_bool Hr.out.symm, hF.drewN _⟩
      · have hke : k = A.length := by omega
        have Hr := hidIt (Hy.out (fun j hj => hall.out j (by omega)))
        clear hall Hy Hn hke
        go_wp2
        go_ret
        exact ⟨ret_bool Hr.out.symm, hF⟩
  · have hd : decide (A = B) = false := by simp; rintro rfl; exact hl rfl
    rw [hd]
    have hl' : ¬ (A.length : Int) = (B.length : Int) := by omega
    clear hd
    go_enter Try.func45, Try.ntmps45
    go_wp2
    go_ret
    exact ⟨rfl, Fr.refl _ _⟩
end Go.Proofs.Ytiifmakhfpllnaa

namespace Go.Proofs.Ytiifmakhfpllnaa
open Go
section
variable {P : Program} {ops : Array Oper} {Q : Exit → Act → World → Prop}
/-- each operation in the order of the text: 'true': it yields in whatever world; 'false': it comes up alone -/
def wpT (P : Program) (ops : Array Oper) (Q : Exit → Act → World → Prop) : List (Bool × Oper) → Act → World → Prop
  | [], a, w => Q .normal a w
  | (true, o) :: rest, a, w => ∃ v, Yields P ops o v a ∧ wpT P ops Q rest (a.put o.dst v) w
  | (false, o) :: rest, a, w => if Region.wanted o (yielded ops a.tmps) then o.wp P a w (wpT P ops Q rest) Q else wpT P ops Q rest (a.put o.dst undef) w
/-- what is asked of the region's text -/
def tB (md : Region.Mode) (ops : Array Oper) : List Bool → Nat → Array Bool → Bool
  | [], _, listed => (Region.ready md ops listed).isEmpty
  | true :: rest, k, listed => Region.free md ops listed k && (Region.ready md ops listed).contains k && tB md ops rest (k + 1) (listed.setIfInBounds k true)
  | false :: rest, k, listed => decide (Region.ready md ops listed = [k]) && tB md ops rest (k + 1) (listed.setIfInBounds k true)
theorem wpAny_T {md : Region.Mode} (hs : Region.noSelect ops = true) (hQ : ∀ c a a' w, Q (.panic c) a w → Q (.panic c) a' w) : ∀ (l : List (Bool × Oper)) (k : Nat) (listed : Array Bool) (a : Act) (w : World), (∀ j, (l[j]?).map (·.2) = ops[k + j]?) →
    tB md ops (l.map (·.1)) k listed = true → wpT P ops Q l a w → wpAny P md ops Q l.length listed a w
  | [], k, listed, a, w, _, hB, h => by
    refine wpAny_done ?_ h _
    simpa [tB] using hB
  | (true, o) :: l, k, listed, a, w, hl, hB, h => by
    have h0 : ops[k]? = some o := by simpa using (hl 0).symm
    have hr : ∀ j, (l[j]?).map (·.2) = ops[k + 1 + j]? := fun j => by
      have := hl (j + 1)
      rw [List.getElem?_cons_succ] at this
      rw [this, Nat.add_assoc, Nat.add_comm 1 j]
    simp only [List.map_cons, tB, Bool.and_eq_true] at hB
    obtain ⟨v, hy, h⟩ := h
    exact wpAny_take h0 hs hB.1.1 hB.1.2 (fun c a w => hQ c _ _ w) hy (wpAny_T hs hQ l (k + 1) _ _ w hr hB.2 h)
  | (false, o) :: l, k, listed, a, w, hl, hB, h => by
    have h0 : ops[k]? = some o := by simpa using (hl 0).symm
    have hr : ∀ j, (l[j]?).map (·.2) = ops[k + 1 + j]? := fun j => by
      have := hl (j + 1)
      rw [List.getElem?_cons_succ] at this
      rw [this, Nat.add_assoc, Nat.add_comm 1 j]
    simp only [List.map_cons, tB, Bool.and_eq_true, decide_eq_true_eq] at hB
    refine wpAny_all hB.1 (by simp) fun i hi => ?_
    obtain rfl : i = k := by simpa using hi
    refine wpOp_step h0 fun K' hK => ?_
    unfold wpT at h
    split at h
    · rename_i hw
      rw [if_pos hw]
      exact Oper.wp_mono (fun a w h => hK _ _ (wpAny_T hs hQ l (i + 1) _ a w hr hB.2 h)) h
    · rename_i hw
      rw [if_neg hw]
      exact hK _ _ (wpAny_T hs hQ l (i + 1) _ _ w hr hB.2 h)
/-- Q, and no panic -/
def noPan (Q : Exit → Act → World → Prop) : Exit → Act → World → Prop
  | .panic _, _, _ => False
  | e, a, w => Q e a w
theorem noPan_imp (e : Exit) (a : Act) (w : World) (h : noPan Q e a w) : Q e a w := by
  cases e <;> first | exact h | exact (h : False).elim
theorem wp_region_T {id : Nat} {a : Act} {w : World} {l : List Oper} (tags : List Bool) (hm : P.follows .mixedOrders = true)
    (hB : (Region.noSelect l.toArray && decide (tags.length = l.length) && tB .any l.toArray tags 0 (Array.replicate l.length false)) = true)
    (h : wpT P l.toArray (noPan Q) (tags.zip l) a w.drew) : (Code.region id l.toArray true).wp P Q a w := by
  refine Code.wp_mono noPan_imp ?_
  simp only [Bool.and_eq_true, decide_eq_true_eq] at hB
  obtain ⟨⟨hs, ht⟩, hB⟩ := hB
  refine wp_region_any hm ?_
  have h1 : (tags.zip l).map (·.1) = tags := List.map_fst_zip (by omega)
  have h2 : (tags.zip l).map (·.2) = l := List.map_snd_zip (by omega)
  have := wpAny_T (P := P) (Q := noPan Q) (md := .any) hs (fun _ _ _ _ h => h) (tags.zip l) 0 (Array.replicate l.length false) a w.drew (fun j => by rw [← List.getElem?_map, h2]; simp) (by rw [h1]; exact hB) h
  have hlen : (tags.zip l).length = l.toArray.size := by simp [ht]
  rw [hlen] at this
  simpa using this
variable {a : Act} {w : World} {rest : List (Bool × Oper)} {o : Oper}
theorem wpT_nil (h : Q .normal a w) : wpT P ops Q [] a w := h
theorem wpT_end (h : Q .normal a w) : wpT P ops (noPan Q) [] a w := h
theorem wpT_pure (h : ∀ K : Act → Prop, (∀ a, wpT P ops Q rest a w → K a) → if Region.wanted o (yielded ops a.tmps) then ∃ v, (∀ w, (execOp a.eval o).run P w = .ok (.value v) w) ∧ K (a.put o.dst v) else K (a.put o.dst undef)) :
    wpT P ops Q ((true, o) :: rest) a w := by
  have := h (fun a => wpT P ops Q rest a w) (fun _ h => h)
  by_cases hw : Region.wanted o (yielded ops a.tmps) = true
  · rw [if_pos hw] at this
    obtain ⟨v, h1, h2⟩ := this
    exact ⟨v, .inl ⟨hw, h1⟩, h2⟩
  · rw [if_neg hw] at this
    exact ⟨undef, .inr ⟨by simpa using hw, rfl⟩, this⟩
theorem wpT_one (h : ∀ K : Act → World → Prop, (∀ a w, wpT P ops Q rest a w → K a w) → if Region.wanted o (yielded ops a.tmps) then o.wp P a w K Q else K (a.put o.dst undef) w) : wpT P ops Q ((false, o) :: rest) a w := h _ (fun _ _ h => h)
theorem wpT_run {v : Value} {w' : World} (hw : Region.wanted o (yielded ops a.tmps) = true) (hr : (execOp a.eval o).run P w = .ok (.value v) w') (h : wpT P ops Q rest (a.put o.dst v) w') : wpT P ops Q ((false, o) :: rest) a w := by
  unfold wpT
  rw [if_pos hw]
  unfold Oper.wp
  rw [hr]
  exact h
theorem wpT_make {v : Value} {w' : World} (hw : Region.wanted o (yielded ops a.tmps) = true) (l c : Operand) (t : TypeId) (hop : o.op = Op.makeSlice t l c) (kl kc : IntKind) (L C : Int) (hl : a.eval l = .int kl L) (hc : a.eval c = .int kc C)
    (n : Nat) (hL : L = (n : Int)) (hC : C = (n : Int)) (hr : (Instr.makeSlice t (.int kl (n : Int)) (.int kc (n : Int))).run P w = .ok v w') (h : wpT P ops Q rest (a.put o.dst v) w') : wpT P ops Q ((false, o) :: rest) a w := by
  subst hL
  subst hC
  exact wpT_run hw (by simp [execOp, hop, hl, hc, hr, Result.andThen]) h
end
end Go.Proofs.Ytiifmakhfpllnaa

namespace Go.Proofs.Ytiifmakhfpllnaa
open Go
section
variable {P : Program} {ops : Array Oper} {Q : Exit → Act → World → Prop} {w0 : World}
/-- 'true': it yields in every world that has grown from w0; 'false': it comes up alone, and leaves such a world -/
def wpF (P : Program) (ops : Array Oper) (w0 : World) (Q : Exit → Act → World → Prop) : List (Bool × Oper) → Act → World → Prop
  | [], a, w => Q .normal a w
  | (true, o) :: rest, a, w => ∃ v, YieldsIf P ops (Fr [] w0) o v a ∧ wpF P ops w0 Q rest (a.put o.dst v) w
  | (false, o) :: rest, a, w => if Region.wanted o (yielded ops a.tmps) then o.wp P a w (fun a' w' => Fr [] w0 w' ∧ wpF P ops w0 Q rest a' w') Q else wpF P ops w0 Q rest (a.put o.dst undef) w
def fB (md : Region.Mode) (ops : Array Oper) : List (Bool × Nat) → Array Bool → Bool
  | [], listed => (Region.ready md ops listed).isEmpty
  | (true, k) :: rest, listed => Region.free md ops listed k && (Region.ready md ops listed).contains k && fB md ops rest (listed.setIfInBounds k true)
  | (false, k) :: rest, listed => decide (Region.ready md ops listed = [k]) && fB md ops rest (listed.setIfInBounds k true)
/-- the operations in the order that is handed in -/
def inOrder (l : List Oper) (d : Oper) (order : List (Bool × Nat)) : List (Bool × Oper) := order.map fun p => (p.1, l.getD p.2 d)
theorem wpAnyH_F {md : Region.Mode} (hs : Region.noSelect ops = true) (hQ : ∀ c a a' w, Q (.panic c) a w → Q (.panic c) a' w) (d : Oper) : ∀ (l : List (Bool × Nat)) (listed : Array Bool) (a : Act) (w : World), (∀ p ∈ l, p.2 < ops.size) →
    fB md ops l listed = true → Fr [] w0 w → wpF P ops w0 Q (inOrder ops.toList d l) a w → wpAnyH P md ops Q (Fr [] w0) l.length listed a w
  | [], listed, a, w, _, hB, _, h => by
    refine wpAnyH_done ?_ h _
    simpa [fB] using hB
  | (true, k) :: l, listed, a, w, hl, hB, hS, h => by
    have hk : k < ops.size := hl _ List.mem_cons_self
    have h0 : ops[k]? = some (ops.toList.getD k d) := by simp [hk]
    simp only [fB, Bool.and_eq_true] at hB
    obtain ⟨v, hy, h⟩ := h
    exact wpAnyH_take h0 hs hB.1.1 hB.1.2 (fun c a w => hQ c _ _ w) hy hS (wpAnyH_F hs hQ d l _ _ w (fun p hp => hl p (List.mem_cons_of_mem _ hp)) hB.2 hS h)
  | (false, k) :: l, listed, a, w, hl, hB, hS, h => by
    have hk : k < ops.size := hl _ List.mem_cons_self
    have h0 : ops[k]? = some (ops.toList.getD k d) := by simp [hk]
    simp only [fB, Bool.and_eq_true, decide_eq_true_eq] at hB
    refine wpAnyH_all hB.1 (by simp) fun i hi => ?_
    obtain rfl : i = k := by simpa using hi
    refine wpOp_step h0 fun K' hK => ?_
    replace h : wpF P ops w0 Q ((false, ops.toList.getD i d) :: inOrder ops.toList d l) a w := h
    unfold wpF at h
    split at h
    · rename_i hw
      rw [if_pos hw]
      exact Oper.wp_mono (fun a w h => hK _ _ ⟨h.1, wpAnyH_F hs hQ d l _ a w (fun p hp => hl p (List.mem_cons_of_mem _ hp)) hB.2 h.1 h.2⟩) h
    · rename_i hw
      rw [if_neg hw]
      exact hK _ _ ⟨hS, wpAnyH_F hs hQ d l _ _ w (fun p hp => hl p (List.mem_cons_of_mem _ hp)) hB.2 hS h⟩
theorem wp_region_F {id : Nat} {a : Act} {w : World} {o : Oper} {l : List Oper} (order : List (Bool × Nat)) (hm : P.follows .mixedOrders = true)
    (hB : (Region.noSelect (o :: l).toArray && decide (order.length = (o :: l).length) && order.all (fun p => decide (p.2 < (o :: l).length)) && fB .any (o :: l).toArray order (Array.replicate (o :: l).length false)) = true)
    (h : wpF P (o :: l).toArray w.drew (noPan Q) (inOrder (o :: l) o order) a w.drew) : (Code.region id (o :: l).toArray true).wp P Q a w := by
  refine Code.wp_mono noPan_imp ?_
  simp only [Bool.and_eq_true, decide_eq_true_eq, List.all_eq_true] at hB
  obtain ⟨⟨⟨hs, ht⟩, hk⟩, hB⟩ := hB
  refine wp_region_held (S := Fr [] w.drew) hm ?_
  have := wpAnyH_F (P := P) (Q := noPan Q) (md := .any) (w0 := w.drew) hs (fun _ _ _ _ h => h) o order (Array.replicate (o :: l).length false) a w.drew (fun p hp => by simpa using hk p hp) hB (Fr.refl _ _) h
  have hlen : order.length = (o :: l).toArray.size := by simp [ht]
  rw [hlen] at this
  exact this
variable {a : Act} {w : World} {rest : List (Bool × Oper)} {o : Oper}
theorem wpF_end (h : Q .normal a w) : wpF P ops w0 (noPan Q) [] a w := h
/-- what yields in whatever world -/
theorem wpF_pure (h : ∀ K : Act → Prop, (∀ a, wpF P ops w0 Q rest a w → K a) → if Region.wanted o (yielded ops a.tmps) then ∃ v, (∀ w, (execOp a.eval o).run P w = .ok (.value v) w) ∧ K (a.put o.dst v) else K (a.put o.dst undef)) :
    wpF P ops w0 Q ((true, o) :: rest) a w := by
  have := h (fun a => wpF P ops w0 Q rest a w) (fun _ h => h)
  by_cases hw : Region.wanted o (yielded ops a.tmps) = true
  · rw [if_pos hw] at this
    obtain ⟨v, h1, h2⟩ := this
    exact ⟨v, .inl ⟨hw, fun w _ => h1 w⟩, h2⟩
  · rw [if_neg hw] at this
    exact ⟨undef, .inr ⟨by simpa using hw, rfl⟩, this⟩
/-- what yields in every world that has grown from the first one -/
theorem wpF_val (v : Value) (hw : Region.wanted o (yielded ops a.tmps) = true) (hr : ∀ W, Fr [] w0 W → (execOp a.eval o).run P W = .ok (.value v) W) (h : wpF P ops w0 Q rest (a.put o.dst v) w) : wpF P ops w0 Q ((true, o) :: rest) a w :=
  ⟨v, .inl ⟨hw, hr⟩, h⟩
theorem wpF_off (hw : Region.wanted o (yielded ops a.tmps) = false) (h : wpF P ops w0 Q rest (a.put o.dst undef) w) : wpF P ops w0 Q ((true, o) :: rest) a w :=
  ⟨undef, .inr ⟨hw, rfl⟩, h⟩
/-- a call -/
theorem wpF_one (h : ∀ K : Act → World → Prop, (∀ a w, Fr [] w0 w → wpF P ops w0 Q rest a w → K a w) → if Region.wanted o (yielded ops a.tmps) then o.wp P a w K Q else wpF P ops w0 Q rest (a.put o.dst undef) w) : wpF P ops w0 Q ((false, o) :: rest) a w := by
  have := h (fun a w => Fr [] w0 w ∧ wpF P ops w0 Q rest a w) (fun _ _ h1 h2 => ⟨h1, h2⟩)
  unfold wpF
  exact this
end
end Go.Proofs.Ytiifmakhfpllnaa
