/-
  The reference of layer 10: Do; law10.made.
-/
import Derived.Test.YtiifmakhfpllnaaGreatM12
import Derived.Test.YtiifmakhfpllnaaGreatM10
namespace Go.Proofs.YtiifmakhfpllnaaGreat
open Go.RowKit Go.Maps

/-- the reference's value reads so -/
structure RefB (w : World) (v : Value) (S g : Nat) (l : List Bool) : Prop where
  row : ∃ u, v = rb S g u ∧ SlB w u l ∧ okV u
  size : S ≤ 4096
  grain : pow2 g = true
  len : l.length = gran S g
theorem RefB.fr0 {w w' : World} {v : Value} {S g : Nat} {l : List Bool} (h : RefB w v S g l) (hf : Fr [] w w') : RefB w' v S g l := by
  obtain ⟨u, h1, h2, h3⟩ := h.row
  exact ⟨⟨u, h1, h2.fr0 hf, h3⟩, h.size, h.grain, h.len⟩
theorem SlB.keep {w w' : World} {v : Value} {l : List Bool} (h : SlB w v l) {b : Nat} {cs : List Value} {t : TypeId} (B : Blk w b cs t) (hcs : ∀ x ∈ cs, ∀ q, x ≠ .bool q) (hf : Fr [b] w w') : SlB w' v l := by
  obtain ⟨a, cap, rfl, h1, h2, hc⟩ := h
  refine ⟨a, cap, rfl, h1, h2, ?_⟩
  cases l with
  | nil => exact .inl rfl
  | cons x l =>
    rcases hc with he | ⟨b', off, rfl, hb, hc⟩
    · simp at he
    · refine SlC.fr (.inr ⟨b', off, rfl, hb, hc⟩) hf fun p hp hm => ?_
      cases hp
      have hbb : b' = b := by simpa using hm
      subst hbb
      have h0 := hc 0 (.bool x) (by simp)
      rw [Nat.add_zero, B.cell off] at h0
      exact hcs _ (List.mem_of_getElem? h0) x rfl
theorem noB {x y : Int} {u : Option Addr} {n c : Nat} : ∀ z ∈ [Value.int .i64 x, .int .i64 y, .slice u n c], ∀ q, z ≠ .bool q := by
  intro z hz q
  simp at hz
  rcases hz with rfl | rfl | rfl <;> simp
theorem doS_len {g : Nat} {st : Nat × List Bool} {o : Op3} (hS : st.1 ≤ 4096) (hl : st.2.length = gran st.1 g) : (doS g st o).1.1 ≤ 4096 ∧ (doS g st o).1.2.length = gran (doS g st o).1.1 g := by
  unfold doS
  split
  · split
    · exact ⟨hS, by simp [bSet]; exact hl⟩
    · exact ⟨hS, hl⟩
  · split
    · split
      · exact ⟨hS, by simp [bClear]; exact hl⟩
      · exact ⟨hS, hl⟩
    · split
      · split
        · rename_i h
          simp [okSec] at h
          exact ⟨by show o.2.2.toNat ≤ 4096; omega, rzB_len⟩
        · exact ⟨hS, hl⟩
      · exact ⟨hS, hl⟩
theorem rSetL_calls (S g : Nat) (u : Value) (l : List Bool) (f n : Int) (d : Bool) (w : World) (h : RefB w (rb S g u) S g l) (fw : -9223372036854775808 ≤ n ∧ n ≤ 9223372036854775807) :
    Calls Tryz.prog 40 #[rb S g u, .int .i64 f, .int .i64 n, .bool d] w
      fun e w' => ∃ u', e = .returned (.tuple #[rb S g u', .int .i64 (doS g (S, l) (if d = true then 0 else 1, f, n)).2]) ∧ (doS g (S, l) (if d = true then 0 else 1, f, n)).1.1 = S ∧ SlB w' u' (doS g (S, l) (if d = true then 0 else 1, f, n)).1.2 ∧ okV u' ∧ Fr [] w w' ∧ (u' = u ∨ ∀ k, u'.ownBlock = some k → w.heap.size ≤ k) := by
  obtain ⟨⟨u1, h1, h2, h3⟩, hS, hp, hl⟩ := h
  have : u = u1 := by
    have := (Value.agg.inj h1)
    simpa using this
  subst this
  have hg := pow2_le hp
  have hg' : 0 < g ∧ g ≤ 64 := by omega
  by_cases hin : insideB S f n
  · obtain ⟨f, rfl⟩ := Int.eq_ofNat_of_zero_le hin.2.1
    obtain ⟨n, rfl⟩ := Int.eq_ofNat_of_zero_le hin.1
    have hfn : f + n ≤ S := by have h1 := hin.2.2.1; have h2 := hin.2.2.2; omega
    cases d
    · have e : doS g (S, l) (1, (f : Int), (n : Int)) = ((S, bClear S g l f n), 0) := by simp [doS, hin]
      simp only [Bool.false_eq_true, if_false]
      rw [e]
      refine (rSet_false S g u l f n w h2 h3 hS hg' hl hfn).mono ?_
      rintro e w1 ⟨u', rfl, a1, a2, a3, a4⟩
      exact ⟨u', rfl, rfl, a1, a2, a3, .inr a4⟩
    · have e : doS g (S, l) (0, (f : Int), (n : Int)) = ((S, bSet S g l f n), 0) := by simp [doS, hin]
      simp only [if_true]
      rw [e]
      refine (rSet_true S g u l f n w h2 h3 hS hg' hl hfn).mono ?_
      rintro e w1 ⟨u', rfl, a1, a2, a3, a4⟩
      exact ⟨u', rfl, rfl, a1, a2, a3, .inr a4⟩
  · have e : doS g (S, l) (if d = true then 0 else 1, f, n) = ((S, l), 1) := by cases d <;> simp [doS, hin]
    rw [e]
    refine (rSet_no S g u l f n d w h2 hS fw hin).mono ?_
    rintro e w1 ⟨rfl, hf⟩
    exact ⟨u, rfl, rfl, h2.fr0 hf, h3, hf, .inl rfl⟩
theorem rSet_calls (S g : Nat) (u : Value) (l : List Bool) (f n : Int) (d : Bool) (w : World) (h : RefB w (rb S g u) S g l) (fw : -9223372036854775808 ≤ n ∧ n ≤ 9223372036854775807) :
    Calls Tryz.prog 40 #[rb S g u, .int .i64 f, .int .i64 n, .bool d] w
      fun e w' => ∃ u', e = .returned (.tuple #[rb S g u', .int .i64 (doS g (S, l) (if d = true then 0 else 1, f, n)).2]) ∧ (doS g (S, l) (if d = true then 0 else 1, f, n)).1.1 = S ∧ SlB w' u' (doS g (S, l) (if d = true then 0 else 1, f, n)).1.2 ∧ okV u' ∧ Fr [] w w' := by
  refine (rSetL_calls S g u l f n d w h fw).mono ?_
  rintro e w1 ⟨u', h1, h2, h3, h4, h5, _⟩
  exact ⟨u', h1, h2, h3, h4, h5⟩
theorem rResizeL_calls (S g : Nat) (u : Value) (l : List Bool) (f n : Int) (w : World) (h : RefB w (rb S g u) S g l) :
    Calls Tryz.prog 42 #[rb S g u, .int .i64 n] w
      fun e w' => ∃ u', e = .returned (.tuple #[rb (doS g (S, l) (2, f, n)).1.1 g u', .int .i64 (doS g (S, l) (2, f, n)).2]) ∧ SlB w' u' (doS g (S, l) (2, f, n)).1.2 ∧ okV u' ∧ Fr [] w w' ∧ (u' = u ∨ ∀ k, u'.ownBlock = some k → w.heap.size ≤ k) := by
  obtain ⟨⟨u1, h1, h2, h3⟩, hS, hp, hl⟩ := h
  have : u = u1 := by
    have := (Value.agg.inj h1)
    simpa using this
  subst this
  by_cases hin : okSec n = true
  · have hb : 0 ≤ n ∧ n ≤ 4096 := by simpa [okSec] using hin
    obtain ⟨n, rfl⟩ := Int.eq_ofNat_of_zero_le hb.1
    have e : doS g (S, l) (2, f, (n : Int)) = ((n, rzB S g l n), 0) := by simp [doS, hin]
    rw [e]
    refine (rResize_yes S g u l n w h2 hp hS (by omega) hl).mono ?_
    rintro e w1 ⟨u', rfl, a1, a2, a3, a4⟩
    exact ⟨u', rfl, a1, a2, a3, .inr a4⟩
  · have e : doS g (S, l) (2, f, n) = ((S, l), 1) := by simp [doS, hin]
    rw [e]
    refine (rResize_no S g u l n w h2 (by simpa using hin)).mono ?_
    rintro e w1 ⟨rfl, hf⟩
    exact ⟨u, rfl, h2.fr0 hf, h3, hf, .inl rfl⟩
theorem rResize_calls (S g : Nat) (u : Value) (l : List Bool) (f n : Int) (w : World) (h : RefB w (rb S g u) S g l) :
    Calls Tryz.prog 42 #[rb S g u, .int .i64 n] w
      fun e w' => ∃ u', e = .returned (.tuple #[rb (doS g (S, l) (2, f, n)).1.1 g u', .int .i64 (doS g (S, l) (2, f, n)).2]) ∧ SlB w' u' (doS g (S, l) (2, f, n)).1.2 ∧ okV u' ∧ Fr [] w w' := by
  refine (rResizeL_calls S g u l f n w h).mono ?_
  rintro e w1 ⟨u', h1, h2, h3, h4, _⟩
  exact ⟨u', h1, h2, h3, h4⟩
end Go.Proofs.YtiifmakhfpllnaaGreat

namespace Go.Proofs.YtiifmakhfpllnaaGreat
open Go.RowKit Go.Maps

/-- what there is behind a script -/
def runS (g : Nat) (st : Nat × List Bool) (ops : List Op3) : Nat × List Bool := ops.foldl (fun s o => (doS g s o).1) st
theorem runS_succ (g : Nat) (st : Nat × List Bool) (ops : List Op3) (k : Nat) (hk : k < ops.length) : runS g st (ops.take (k + 1)) = (doS g (runS g st (ops.take k)) (ops.getD k z3)).1 := by
  have hg : ops[k] = ops.getD k z3 := by rw [List.getD_eq_getElem?_getD, List.getElem?_eq_getElem hk]; rfl
  rw [List.take_succ_eq_append_getElem hk, hg]
  unfold runS
  rw [List.foldl_append]
  rfl
def stOf (s g : Int) (ops : List Op3) : Nat × List Bool := runS g.toNat (s.toNat, List.replicate (gran s.toNat g.toNat) false) ops
/-- there are such bits -/
def okMade (s g : Int) (ops : List Op3) : Bool := okNew s g && fewS s ops
def someBits (v : Value) : Prop := ∃ (x y : Int) (a : Option Addr) (n c : Nat), v = .agg #[.int .i64 x, .int .i64 y, .slice a n c]
theorem someBits.z : someBits z0 := ⟨0, 0, none, 0, 0, rfl⟩
theorem RefB.some {w : World} {v : Value} {S g : Nat} {l : List Bool} (h : RefB w v S g l) : someBits v := by
  obtain ⟨u, rfl, h2, _⟩ := h.row
  obtain ⟨a, c, rfl, _⟩ := SlF.open h2
  exact ⟨_, _, a, _, c, rfl⟩
end Go.Proofs.YtiifmakhfpllnaaGreat

namespace Go.Proofs.YtiifmakhfpllnaaGreat
open Go.RowKit Go.Maps

theorem RefB.keep {w w' : World} {S g : Nat} {u : Value} {l : List Bool} (h : RefB w (rb S g u) S g l) {b : Nat} {cs : List Value} {t : TypeId} (B : Blk w b cs t) (hcs : ∀ x ∈ cs, ∀ q, x ≠ .bool q) (hf : Fr [b] w w') : RefB w' (rb S g u) S g l := by
  obtain ⟨u1, h1, h2, h3⟩ := h.row
  exact ⟨⟨u1, h1, SlB.keep h2 B hcs hf, h3⟩, h.size, h.grain, h.len⟩
theorem SlB.frM {w w' : World} {v : Value} {l : List Bool} (h : SlB w v l) {mb : Nat} {x : Array MapEntry × Nat} (hm : mapAt w mb = some x) (hf : Fr [mb] w w') : SlB w' v l := by
  obtain ⟨a, cap, rfl, h1, h2, hc⟩ := h
  refine ⟨a, cap, rfl, h1, h2, ?_⟩
  cases l with
  | nil => exact .inl rfl
  | cons y l =>
    rcases hc with he | ⟨b', off, rfl, hb, hc⟩
    · simp at he
    · refine SlC.fr (.inr ⟨b', off, rfl, hb, hc⟩) hf fun p hp hmm => ?_
      cases hp
      have hbb : b' = mb := by simpa using hmm
      subst hbb
      have h0 := hc 0 (.bool y) (by simp)
      obtain ⟨es, c⟩ := x
      simp [World.cell?, mapAt_some.1 hm] at h0
theorem SlB.frT {w w' : World} {v : Value} {l l' : List Bool} {tb mb S g : Nat} (h : SlB w v l) (hW : BitW w tb mb S g l') (hf : Fr [tb, mb] w w') : SlB w' v l := by
  obtain ⟨a, cap, rfl, h1, h2, hc⟩ := h
  refine ⟨a, cap, rfl, h1, h2, ?_⟩
  cases l with
  | nil => exact .inl rfl
  | cons y l =>
    rcases hc with he | ⟨b', off, rfl, hb, hc⟩
    · simp at he
    · refine SlC.fr (.inr ⟨b', off, rfl, hb, hc⟩) hf fun p hp hmm => ?_
      cases hp
      have h0 := hc 0 (.bool y) (by simp)
      rcases List.mem_cons.1 hmm with hbb | hbb
      · have hbb : b' = tb := hbb
        subst hbb
        rw [Nat.add_zero, hW.blk.cell off] at h0
        have := List.mem_of_getElem? h0
        simp at this
      · have hbb : b' = mb := by simpa using hbb
        subst hbb
        obtain ⟨es, c, hm, _⟩ := hW.map
        simp [World.cell?, mapAt_some.1 hm] at h0
theorem RefB.frT {w w' : World} {v : Value} {l l' : List Bool} {tb mb S g S' g' : Nat} (h : RefB w v S g l) (hW : BitW w tb mb S' g' l') (hf : Fr [tb, mb] w w') : RefB w' v S g l := by
  obtain ⟨u1, h1, h2, h3⟩ := h.row
  exact ⟨⟨u1, h1, h2.frT hW hf, h3⟩, h.size, h.grain, h.len⟩
theorem fewS_len {s : Int} {l : List Op3} (h : fewS s l = true) : l.length ≤ 60 := by
  unfold fewS at h
  simp only [Bool.and_eq_true, decide_eq_true_eq] at h
  exact h.2.1
end Go.Proofs.YtiifmakhfpllnaaGreat

namespace Go.Proofs.YtiifmakhfpllnaaGreat
open Go.RowKit Go.Maps

set_option maxRecDepth 100000 in
set_option maxHeartbeats 800000 in
theorem rIs_calls (S g : Nat) (u : Value) (l : List Bool) (s : Int) (w : World) (hu : SlB w u l) (hS : S ≤ 4096) (hg : 0 < g ∧ g ≤ 64) (hlen : l.length = gran S g) :
    Calls Tryz.prog 72 #[.agg #[.int .i64 S, .int .i64 g, u], .int .i64 s] w fun e w' => e = .returned (.bool (isB S g l s)) ∧ Fr [] w w' := by
  have hg0 : (0 : Int) < g := by omega
  have hgn : ¬ (g : Int) = 0 := by omega
  have hgz : ¬ g = 0 := by omega
  have hle := gran_le hS hg.1
  obtain ⟨a, cap, rfl, _, _, _⟩ := hu.open
  have Hd : Hid (isB S g l s = (decide (0 ≤ s) && decide (s < S) && l.getD (s.toNat / g) false)) := hidIt rfl
  have B2 := Blk.new w [.int .i64 S, .int .i64 g, .slice a l.length cap] 74
  have b2 := B2.cell
  have hu2 := SlF.fr0 hu ((Fr.refl _ _).alloc (.cells #[.int .i64 S, .int .i64 g, .slice a l.length cap] 74))
  by_cases h0 : 0 ≤ s
  · obtain ⟨n, rfl⟩ := Int.eq_ofNat_of_zero_le h0
    by_cases h1' : n < S
    · have hq : Int.tdiv (n : Int) g = ((n / g : Nat) : Int) := Int.ofNat_tdiv n g
      have hkn := Nat.div_le_self n g
      have hkl : n / g < l.length := by rw [hlen]; exact gran_at hg.1 h1'
      obtain ⟨b, off, hab, hb, c0⟩ := SlB.at hu2 hkl
      cases hab
      have Hd2 : Hid (isB S g l n = l.getD (n / g) false) := hidIt (by rw [Hd.out]; simp [h1'])
      replace hlen := hidIt hlen
      generalize n / g = k at *
      have hqw : IntKind.i64.wrap (k : Int) = (k : Int) := IntWalk.i64_in _ (by omega)
      generalize l.getD k false = q at *
      go_enter Tryz.func72, Tryz.ntmps72
      go_wp2_with fail
      go_quiet (fail)
      go_wp2
      go_ret
      exact ⟨ret_bool (by rw [Hd2.out]), ((Fr.refl _ _).alloc _).drewN _⟩
    · replace hlen := hidIt hlen
      go_enter Tryz.func72, Tryz.ntmps72
      go_wp2_with fail
      go_quiet (fail)
      go_wp2
      go_ret
      exact ⟨ret_bool (by rw [Hd.out]; simp [h1']), ((Fr.refl _ _).alloc _).drewN _⟩
  · have hd : decide (0 ≤ s) = false := by simp; omega
    replace hlen := hidIt hlen
    go_enter Tryz.func72, Tryz.ntmps72
    go_wp2_with fail
    go_quiet (fail)
    go_wp2
    go_ret
    exact ⟨ret_bool (by rw [Hd.out, hd]; rfl), ((Fr.refl _ _).alloc _).drewN _⟩
end Go.Proofs.YtiifmakhfpllnaaGreat

namespace Go.Proofs.YtiifmakhfpllnaaGreat
open Go.RowKit Go.Maps

set_option maxRecDepth 100000 in
set_option maxHeartbeats 1600000 in
theorem rRow_calls (S g : Nat) (u : Value) (l : List Bool) (w : World) (hu : SlB w u l) (hS : S ≤ 4096) (hg : 0 < g ∧ g ≤ 64) (hlen : l.length = gran S g) :
    Calls Tryz.prog 37 #[.agg #[.int .i64 S, .int .i64 g, u]] w fun e w' => ∃ v', e = .returned v' ∧ SlP w' v' (ofE (kindsB S g l S)) ∧ Fr [] w w' := by
  obtain ⟨a, cap, rfl, _, _, _⟩ := hu.open
  have hlen' := hidIt hlen
  clear hlen
  have B1 := Blk.new w [.int .i64 S, .int .i64 g, .slice a l.length cap] 74
  have hF1 := (Fr.refl [] w).alloc (.cells #[.int .i64 S, .int .i64 g, .slice a l.length cap] 74)
  go_enter Tryz.func37, Tryz.ntmps37
  go_wp2_with fail
  go_loopw [3, 4] (fun v i wr => ∃ n : Nat, n ≤ S ∧ i = .int .i64 n ∧ wr.ownsRow (w.heap.size + 1) 3 1 v n ((kindsB S g l n).flatMap intC) ∧ Blk wr w.heap.size [.int .i64 S, .int .i64 g, .slice a l.length cap] 74 ∧ Fr [] w wr) (fun _ i _ => S - (intOf i).toNat)
  case atStart => exact ⟨0, Nat.zero_le _, rfl, World.ownsRow_nil _ _ _ _, B1, hF1⟩
  case round =>
    clear B1 hF1
    obtain ⟨n, hnl, rfl, hown, B1, hF⟩ := hrel
    have b1 := B1.cell
    by_cases hlt : n < S
    · have Hst := hidIt (kindsB_succ S g l n)
      generalize kindsB S g l n = K at *
      go_wp2_with fail
      refine (rIs_calls S g _ l n _ (SlF.fr0 hu hF) hS hg hlen'.out).mono ?_
      rintro e w2 ⟨rfl, hf2⟩
      have hown2 := owns_fr hown hf2 (by simp)
      have hF2 := hF.trans0 hf2
      have B2 := B1.fr0 hf2
      have hob := own_base hown2
      have hsz := hF2.size
      have hbl := B2.lt
      clear hown hF hf2 B1 b1
      generalize isB S g l (n : Int) = q at *
      cases q
      · go_wp2_with (at_builtin; refine Hid.out ?_)
        refine hidIt ?_
        refine wpList_append1 124 3 (.int .i64 0) 1 8 Tryz.underlying124 infoInt rfl (by decide) (by decide) rfl _ _ rfl (w.heap.size + 1) u3 n (K.flatMap intC) rfl (hown2.alloc _) (intC 0) rfl int_one w2.heap.size rfl (Blk.new _ _ _) (by omega) (by simp; omega) ?_
        intro v' w3 hown3 hgrow hloc
        go_frame
        go_wp2
        go_roundw
        case rel => exact ⟨n + 1, by omega, by go_num, by rw [Hst.out]; simpa using hown3, (B2.alloc _).fr (Fr.of_grown hgrow) (own_notin hown2 (by omega)), (hF2.alloc _).grown hgrow (fun x hx => .inr (by have := hob x hx; omega))⟩
        case measure => simp [intOf]; omega
      · go_wp2_with (at_builtin; refine Hid.out ?_)
        refine hidIt ?_
        refine wpList_append1 124 3 (.int .i64 0) 1 8 Tryz.underlying124 infoInt rfl (by decide) (by decide) rfl _ _ rfl (w.heap.size + 1) u3 n (K.flatMap intC) rfl (hown2.alloc _) (intC 1) rfl int_one w2.heap.size rfl (Blk.new _ _ _) (by omega) (by simp; omega) ?_
        intro v' w3 hown3 hgrow hloc
        go_frame
        go_wp2
        go_roundw
        case rel => exact ⟨n + 1, by omega, by go_num, by rw [Hst.out]; simpa using hown3, (B2.alloc _).fr (Fr.of_grown hgrow) (own_notin hown2 (by omega)), (hF2.alloc _).grown hgrow (fun x hx => .inr (by have := hob x hx; omega))⟩
        case measure => simp [intOf]; omega
    · have hke : n = S := by omega
      subst hke
      have hsl : SlI wr u3 (kindsB n g l n) := SlF.of_owns (base := w.heap.size + 1) (e := 3) (size := 1) (by rw [kindsB_len]; exact hown)
      have hkl := kindsB_len n g l n
      go_wp2_with fail
      refine (rOf_calls u3 _ _ hsl (by omega)).mono ?_
      rintro e w2 ⟨v2, rfl, hs2, hf2⟩
      go_wp2
      go_ret
      exact ⟨v2, rfl, hs2, hF.trans0 hf2⟩
end Go.Proofs.YtiifmakhfpllnaaGreat
