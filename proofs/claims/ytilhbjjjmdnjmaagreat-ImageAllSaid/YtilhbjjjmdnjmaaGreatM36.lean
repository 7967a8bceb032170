/-
  What the laws of images say, in plain Lean.
-/
import Derived.Test.YtilhbjjjmdnjmaaGreatM34
namespace Go.Proofs.YtilhbjjjmdnjmaaGreat
open Go.RowKit

theorem conC_conT (M : Img) (c : Nat) : conC M c = (conT M M.t).getD c (zBy M.z) := by
  unfold conC conT
  by_cases hc : c < M.t.length
  · simp only [List.getD_eq_getElem?_getD, List.getElem?_map, List.getElem?_eq_getElem hc]
    rfl
  · simp only [List.getD_eq_getElem?_getD, List.getElem?_map, List.getElem?_eq_none (Nat.le_of_not_lt hc)]
    simp [conS, zS]
theorem seg_conT {M R : Img} (hB : R.B = M.B) (h : conT R R.t = conT M M.t) (lo n : Nat) : seg R lo n = seg M lo n := by
  have hz : R.z = M.z := by unfold Img.z; rw [hB]
  unfold seg conX
  rw [hz]
  refine List.map_congr_left fun i _ => ?_
  rw [conC_conT, conC_conT, h, hz]
theorem read_conT {M R : Img} (hB : R.B = M.B) (h : conT R R.t = conT M M.t) (a l : Nat) : readI R a l = readI M a l := seg_conT hB h _ _
theorem seg_take (M : Img) (lo n k : Nat) (hk : k ≤ n) : (seg M lo n).take k = seg M lo k := by
  unfold seg
  rw [← List.map_take, List.take_range, Nat.min_eq_left hk]
theorem seg_drop (M : Img) (lo n k : Nat) (hk : k ≤ n) : (seg M lo n).drop k = seg M (lo + k) (n - k) := by
  obtain ⟨m, rfl⟩ : ∃ m, n = k + m := ⟨n - k, by omega⟩
  rw [← seg_app, List.drop_left' (seg_len M lo k), Nat.add_sub_cancel_left]
theorem seg_eq {M R : Img} {lo n : Nat} (h : ∀ y, lo ≤ y → y < lo + n → conX R y = conX M y) : seg R lo n = seg M lo n := by
  unfold seg
  refine List.map_congr_left fun i hi => h _ (by omega) ?_
  have := List.mem_range.1 hi
  omega
/-! ### frozen -/
def frzI (R M : Img) (nm : By) : Prop := OkI R ∧ R.B = M.B ∧ R.n.length = M.n.length ∧ (nm, M.t) ∈ R.s ∧ conT R M.t = conT M M.t
theorem frz_start {M : Img} (h : OkI M) {nm : By} (he : (snapE M nm).1 = 0) : frzI (snapE M nm).2 M nm := by
  have hk := snap_K h nm (fun _ => True)
  refine ⟨hk.ok, hk.B, hk.n, ?_⟩
  revert he
  unfold snapE
  split
  · intro he; exact absurd he (by simp)
  · split
    · intro he; exact absurd he (by simp)
    · intro _
      refine ⟨by rw [(snap_keep M nm).2.1]; simp, conT_eq fun x _ => snap_conS M nm x⟩
theorem frz_op {R M : Img} {nm : By} (h : frzI R M nm) (o : OpI) (bel : List By) (ho : o.nm ≠ nm ∨ o.k < 5) : frzI (opE R o bel).2 M nm := by
  have hk := op_K h.1 o bel (fun x => x = nm) (by rcases ho with ho | ho; exact .inr ho; exact .inl ho)
  obtain ⟨h1, h2⟩ := hk.snap _ h.2.2.2.1 rfl
  exact ⟨hk.ok, hk.B.trans h.2.1, hk.n.trans h.2.2.1, h1, h2.trans h.2.2.2.2⟩
theorem frz_end {R M : Img} {nm : By} (h : frzI R M nm) : ∃ R', applyE R nm = (0, R') ∧ OkI R' ∧ R'.B = M.B ∧ R'.t.length = M.t.length ∧ conT R' R'.t = conT M M.t := by
  obtain ⟨hok, hB, hn, hm, hc⟩ := h
  have hne : findI R.s nm ≠ none := fun e => findI_none e (List.mem_map.2 ⟨_, hm, rfl⟩)
  cases e : findI R.s nm with
  | none => exact absurd e hne
  | some k =>
    obtain ⟨hk, h1⟩ := findI_some e
    have hq : R.s.getD k zQ = (nm, M.t) := by
      have h2 : R.s.getD k zQ ∈ R.s := getD_memQ hk
      obtain ⟨i, hi, h3⟩ := List.getElem_of_mem hm
      have h4 : R.s.getD k zQ = R.s[k] := by rw [List.getD_eq_getElem?_getD, List.getElem?_eq_getElem hk]; rfl
      have hnd := hok.nodup
      have : i = k := by
        have hp := List.pairwise_iff_getElem.1 hnd
        have e1 : (R.s.map (·.1))[i]'(by simpa using hi) = nm := by rw [List.getElem_map, h3]
        have e2 : (R.s.map (·.1))[k]'(by simpa using hk) = nm := by rw [List.getElem_map, ← h4, h1]
        rcases Nat.lt_trichotomy i k with h5 | h5 | h5
        · exact absurd (e1.trans e2.symm) (hp i k _ _ h5)
        · exact h5
        · exact absurd (e2.trans e1.symm) (hp k i _ _ h5)
      subst this
      rw [h4, h3]
    refine ⟨applyI R k, by unfold applyE; rw [e], apply_ok hok hk, apply_keep.1.trans hB, ?_, ?_⟩
    · rw [apply_keep.2.2.2.1, hq]
    · rw [apply_conT hok hk, hq, hc]
/-! ### written -/
theorem write_said {M R : Img} (h : OkI M) {x : Int} {b : By} (he : writeE M x b [] = (0, R)) : ∃ a n : Nat, x = a ∧ b.length = 16 * n ∧ a + n ≤ M.t.length * 2 ^ M.B ∧ OkI R ∧ R.B = M.B ∧ R.t.length = M.t.length ∧
    ∀ y, conX R y = if 16 * a ≤ y ∧ y < 16 * a + 16 * n then b.getD (y - 16 * a) 0 else conX M y := by
  unfold writeE at he
  split at he
  · cases he
  · rename_i h16
    split at he
    · rename_i hi
      exact absurd (congrArg Prod.fst he) hi
    · rename_i hi
      obtain ⟨a, n, rfl, hn, hal⟩ := inside_ok (Classical.not_not.1 hi)
      have hn : b.length / 16 = n := by omega
      rw [Int.toNat_natCast, hn] at he
      split at he
      · cases he
      · rename_i hf
        have hR : writeI false M a n b (belF []) = R := congrArg Prod.snd he
        have hb : b.length = 16 * n := by omega
        have hI := wrN_inv (zero := false) (x := belF []) h hal hb (belF_len []) (by omega) _ (Nat.le_refl _)
        have hc := wrN_conX (zero := false) (x := belF []) h hal hb (belF_len []) (by omega) (fun R c => cluB_nil R c) (fun h => by cases h) _ (Nat.le_refl _)
        rw [← hR]
        refine ⟨a, n, rfl, hb, hal, hI.ok, hI.B, hI.t, fun y => ?_⟩
        have := hc y
        rw [pcE_last (z_pos M)] at this
        exact this
theorem zero_said {M R : Img} (h : OkI M) {x l : Int} (he : zeroE M x l [] = (0, R)) : ∃ a n : Nat, x = a ∧ l = n ∧ a + n ≤ M.t.length * 2 ^ M.B ∧ OkI R ∧ R.B = M.B ∧ R.t.length = M.t.length ∧
    ∀ y, conX R y = if 16 * a ≤ y ∧ y < 16 * a + 16 * n then 0 else conX M y := by
  unfold zeroE at he
  split at he
  · rename_i hi
    exact absurd (congrArg Prod.fst he) hi
  · rename_i hi
    obtain ⟨a, n, rfl, rfl, hal⟩ := inside_ok (Classical.not_not.1 hi)
    rw [Int.toNat_natCast, Int.toNat_natCast] at he
    split at he
    · cases he
    · rename_i hf
      have hR : writeI true M a n (zBy (16 * n)) (belF []) = R := congrArg Prod.snd he
      have hb : (zBy (16 * n)).length = 16 * n := by simp [zBy]
      have hI := wrN_inv (zero := true) (x := belF []) h hal hb (belF_len []) (by omega) _ (Nat.le_refl _)
      have hc := wrN_conX (zero := true) (x := belF []) h hal hb (belF_len []) (by omega) (fun R c => cluB_nil R c) (fun _ => by rw [hb]) _ (Nat.le_refl _)
      rw [← hR]
      refine ⟨a, n, rfl, rfl, hal, hI.ok, hI.B, hI.t, fun y => ?_⟩
      have := hc y
      rw [pcE_last (z_pos M)] at this
      refine this.trans ?_
      split
      · simp [zBy, List.getD_eq_getElem?_getD, List.getElem?_replicate]
        split <;> rfl
      · rfl
theorem seg_new {M : Img} {lo : Nat} {b : By} (h : ∀ y, lo ≤ y → y < lo + b.length → conX M y = b.getD (y - lo) 0) : seg M lo b.length = b := by
  refine List.ext_getElem (seg_len M lo _) fun i h1 h2 => ?_
  have h3 := seg_getD M lo b.length i h2
  rw [h _ (by omega) (by omega), Nat.add_sub_cancel_left] at h3
  simpa only [List.getD_eq_getElem?_getD, List.getElem?_eq_getElem h1, List.getElem?_eq_getElem h2, Option.getD_some] using h3
/-- what is written, in three parts -/
theorem wrote {M R : Img} {lo n : Nat} {b : By} (h : ∀ y, conX R y = if lo ≤ y ∧ y < lo + b.length then b.getD (y - lo) 0 else conX M y) (hl : lo + b.length ≤ n) :
    (seg R 0 n).take lo = (seg M 0 n).take lo ∧ ((seg R 0 n).drop lo).take b.length = b ∧ (seg R 0 n).drop (lo + b.length) = (seg M 0 n).drop (lo + b.length) := by
  refine ⟨?_, ?_, ?_⟩
  · rw [seg_take _ _ _ _ (by omega), seg_take _ _ _ _ (by omega)]
    exact seg_eq fun y _ hy => by rw [h, if_neg (by omega)]
  · rw [seg_drop _ _ _ _ (by omega), seg_take _ _ _ _ (by omega), Nat.zero_add]
    exact seg_new fun y h1 h2 => by rw [h, if_pos ⟨h1, h2⟩]
  · rw [seg_drop _ _ _ _ (by omega), seg_drop _ _ _ _ (by omega), Nat.zero_add]
    exact seg_eq fun y h1 _ => by rw [h, if_neg (by omega)]
/-! ### dropped -/
theorem drop_said {M R : Img} {k : Nat} (h : OkI R) (hs : R.s = M.s.drop k) (hk : k < M.s.length) : ∃ R', dropR R (M.s.getD k zQ).1 = (0, R') ∧ OkI R' ∧ R'.B = R.B ∧ R'.n.length = R.n.length ∧ R'.t.length = R.t.length ∧ R'.s = M.s.drop (k + 1) := by
  have hg : M.s.getD k zQ = M.s[k] := by rw [List.getD_eq_getElem?_getD, List.getElem?_eq_getElem hk]; rfl
  have hc : R.s = M.s[k] :: M.s.drop (k + 1) := by rw [hs, List.drop_eq_getElem_cons hk]
  have hf : findI R.s (M.s.getD k zQ).1 = some 0 := by
    rw [hc, hg]
    unfold findI
    rw [List.findIdx?_cons]
    simp
  have h0 : 0 < R.s.length := by rw [hc, List.length_cons]; omega
  refine ⟨dropI R 0, by unfold dropR; rw [hf], drop_ok h h0, drop_keep.1, drop_keep.2.2.1, drop_keep.2.2.2.1, ?_⟩
  rw [drop_keep.2.1, hc]
  rfl
theorem disc_said {M : Img} (h : OkI M) (hs : M.s = []) : (discardE M 0 (M.t.length * 2 ^ M.B : Nat)).1 = 0 ∧ freeN (discardE M 0 (M.t.length * 2 ^ M.B : Nat)).2.n = M.n.length ∧ (discardE M 0 (M.t.length * 2 ^ M.B : Nat)).2.s = [] ∧ OkI (discardE M 0 (M.t.length * 2 ^ M.B : Nat)).2 := by
  have hi : insideI M ((0 : Nat) : Int) (M.t.length * 2 ^ M.B : Nat) = 0 := inside_nat (by omega)
  have hK := dis_inv h (a := 0) (l := M.t.length * 2 ^ M.B) (by omega) _ (Nat.le_refl _)
  unfold discardE
  rw [if_neg (fun hn => hn hi)]
  refine ⟨rfl, ?_, ?_, hK.ok⟩
  · exact dis_all_free h hs
  · exact hK.s.trans hs
end Go.Proofs.YtilhbjjjmdnjmaaGreat

namespace Go.Proofs.YtilhbjjjmdnjmaaGreat
open Go.RowKit Go.Maps
attribute [local go_sem] mapAt_alloc mapAt_setCell mapAt_drew mapAt_drewN cells_str store_str len_str eql_func_nil neq_func_nil neq_nil_nil

def secB (c : UInt8) : By := c :: zBy 15
def secPost (w : World) (c : UInt8) (e : Ending) (w' : World) : Prop := ∃ v, e = .returned v ∧ SlY w' v (secB c) ∧ (∀ k, v.ownBlock = some k → w.heap.size ≤ k) ∧ Fr [] w w'
set_option maxRecDepth 100000 in
theorem Sector_calls (c : UInt8) (w : World) : Calls Tryz.prog 25 #[.int .u8 (c.toNat : Int)] w (secPost w c) := by
  obtain ⟨w2, hrun, hown, hg⟩ := makeY 16 w (by omega)
  have hF := (Fr.refl [] w).grown hg (fun x hx => by cases hx)
  have hput := owns_put hown 0 (.int .u8 (c.toNat : Int))
  obtain ⟨hc, hfz⟩ := owns_at hown (j := 0) (u := .int .u8 0) rfl
  have hown2 := hidIt (SlF.of_owns (f := byC) (l := secB c) hput)
  have hF2 := hF.setCell (p := ⟨w.heap.size, 0, none⟩) (.inr (Nat.le_refl _)) (.int .u8 (c.toNat : Int))
  have hrun : (Instr.makeSlice 40 (.int .i64 16) (.int .i64 16)).run Tryz.prog w = .ok (.slice (some ⟨w.heap.size, 0, none⟩) 16 16) w2 := hrun
  clear hown hput
  go_enter Tryz.func25, Tryz.ntmps25
  go_wp2
  go_ret
  exact ⟨_, rfl, hown2.out, fun k hk => (by have : w.heap.size = k := by simpa [Value.ownBlock] using hk
                                            omega), hF2⟩
def someI (w : World) (e : Ending) (w' : World) : Prop := ∃ b, e = .returned (.bool b) ∧ Fr [] w w'
/-- and few it is only if it is short -/
def someN (w : World) (l : List OpI) (e : Ending) (w' : World) : Prop := ∃ b, e = .returned (.bool b) ∧ Fr [] w w' ∧ (b = true → l.length ≤ 40)
set_option maxRecDepth 100000 in
set_option maxHeartbeats 1600000 in
theorem iFewN_calls (a1 a2 a3 : Int) (n0 : Nat) (v : Value) (l : List OpI) (w : World) (hv : OpsW w n0 v l) : Calls Tryz.prog 5 #[.agg #[.int .i64 a1, .int .i64 a2, .int .i64 a3], v] w (someN w l) := by
  obtain ⟨a, cap, rfl, hlc, hcm⟩ := hv.open
  unfold maxLen at hcm
  have B0 := Blk.new w [.int .i64 a1, .int .i64 a2, .int .i64 a3] 23
  have hf0 := (Fr.refl [] w).alloc (.cells #[.int .i64 a1, .int .i64 a2, .int .i64 a3] 23)
  have hv1 := hv.fr0 hf0
  go_enter Tryz.func5, Tryz.ntmps5
  go_wp2
  go_loopw [5, 7, 10] (fun n _ i wr => ∃ k : Nat, k ≤ l.length ∧ i = .int .i64 k ∧ (∃ m, n = .int .i64 m) ∧ Fr [] (w.alloc (.cells #[.int .i64 a1, .int .i64 a2, .int .i64 a3] 23)) wr) (fun _ _ i _ => l.length - (intOf i).toNat)
  case atStart => exact ⟨0, Nat.zero_le _, rfl, ⟨0, rfl⟩, Fr.refl _ _⟩
  case round =>
    obtain ⟨k, hk, rfl, ⟨m, rfl⟩, hF⟩ := hrel
    have hF0 := hf0.trans0 hF
    have B1 := B0.fr0 hF
    have c1 := B1.cell
    by_cases hlt : k < l.length
    · obtain ⟨b, off, vb, rfl, hb, _, hbv, d0, d1, d2, d3, d4⟩ := (hv1.fr0 hF).at hlt
      obtain ⟨vba, vbn, rfl, _⟩ := hbv.sl.open
      generalize l.getD k zOI = o at *
      obtain ⟨p, x, lo, by_, nm⟩ := o
      simp only at d0 d1 d2 d3 d4
      have hfin := fun W (h : Fr [] wr W) => hidIt (hF0.trans0 h)
      clear hbv hv1 hv hF0 B0 B1
      by_cases h4 : p = 4
      · by_cases h20 : 20 < lo
        · by_cases h256 : lo ≤ 256
          · go_wp2
            go_ret
            exact ⟨_, rfl, (hfin _ ((Fr.refl [] wr).alloc _)).out, fun h => by cases h⟩
          · go_wp2
            go_roundw
            case rel => exact ⟨k + 1, by omega, by go_num, ⟨_, rfl⟩, hF.alloc _⟩
            case measure => simp [intOf]; omega
        · go_wp2
          go_roundw
          case rel => exact ⟨k + 1, by omega, by go_num, ⟨_, rfl⟩, hF.alloc _⟩
          case measure => simp [intOf]; omega
      · have h4' : (p == 4) = false := by simpa using h4
        go_wp2
        go_roundw
        case rel => exact ⟨k + 1, by omega, by go_num, ⟨_, rfl⟩, hF.alloc _⟩
        case measure => simp [intOf]; omega
    · have hke : ¬ (k : Int) < l.length := by omega
      have hke2 : (k : Int) = l.length := by omega
      clear hv1 hv B0 B1
      by_cases h40 : (l.length : Int) ≤ 40
      · by_cases h6 : m ≤ 6000
        · by_cases h20 : a2 ≤ 20
          · go_wp2
            go_ret
            exact ⟨_, rfl, hF0, fun _ => by omega⟩
          · go_wp2
            go_ret
            exact ⟨_, rfl, hF0, fun _ => by omega⟩
        · go_wp2
          go_ret
          exact ⟨_, rfl, hF0, fun _ => by omega⟩
      · go_wp2
        go_ret
        exact ⟨_, rfl, hF0, fun h => by cases h⟩
theorem iFew_calls (a1 a2 a3 : Int) (n0 : Nat) (v : Value) (l : List OpI) (w : World) (hv : OpsW w n0 v l) : Calls Tryz.prog 5 #[.agg #[.int .i64 a1, .int .i64 a2, .int .i64 a3], v] w (someI w) :=
  (iFewN_calls a1 a2 a3 n0 v l w hv).mono fun _ _ ⟨b, h1, h2, _⟩ => ⟨b, h1, h2⟩
section
variable {ib : Nat} {p : Pl} {M : Img}
def telsPost (w : World) (p : Pl) (bel : List By) (e : Ending) (w' : World) : Prop := ∃ fv, e = .returned fv ∧ BelW p w' fv bel ∧ Fr [] w w'
set_option maxRecDepth 100000 in
theorem Tells_calls (u : Value) (bel : List By) (w : World) (h : ImgW w ib p M) (hu : SlT w u bel) (hs : ∀ s ∈ bel, s.length ≤ maxLen) (hr : 0 < bel.length → ∀ k, u.ownBlock = some k → p.r k = none) :
    Calls Tryz.prog 35 #[u] w (telsPost w p bel) := by
  obtain ⟨a, cap, rfl, hlc, hcm, _⟩ := hu.open
  have B0 := Blk.new w [.slice a bel.length cap] 26
  have hf0 := (Fr.refl [] w).alloc (.cells #[.slice a bel.length cap] 26)
  cases bel with
  | nil =>
    go_enter Tryz.func35, Tryz.ntmps35
    go_wp2
    go_ret
    exact ⟨_, rfl, BelW.nil _ _, hf0⟩
  | cons x bel =>
    have hB : BelW p (w.alloc (.cells #[.slice a (x :: bel).length cap] 26)) (.func (.func 76) #[] #[.pointer (some ⟨w.heap.size, 0, none⟩)]) (x :: bel) :=
      .inr ⟨_, _, rfl, B0, SlF.fr0 hu hf0, hs, by simp, h.new (Nat.le_refl _), hr (by simp)⟩
    have hne : (((x :: bel).length : Int) == 0) = false := by
      rw [List.length_cons]
      simp
      omega
    clear hu hs hr h
    generalize x :: bel = q at *
    clear bel
    go_enter Tryz.func35, Tryz.ntmps35
    go_wp2
    go_ret
    exact ⟨_, rfl, hB, hf0⟩
end
end Go.Proofs.YtilhbjjjmdnjmaaGreat

namespace Go.Proofs.YtilhbjjjmdnjmaaGreat
open Go.RowKit Go.Maps
attribute [local go_sem] mapAt_alloc mapAt_setCell mapAt_drew mapAt_drewN cells_str store_str len_str eql_func_nil neq_func_nil neq_nil_nil

section
variable {ib : Nat} {p : Pl} {M : Img}
/-- what a call tells, and leaves -/
def doePost (w : World) (ib : Nat) (p : Pl) (M : Img) (o : OpI) (bel : List By) (e : Ending) (w' : World) : Prop := ∃ p', e = .returned (.tuple #[strL (opR M o), .int .i64 (opE M o bel).1]) ∧ ImgW w' ib p' (opE M o bel).2 ∧ Step w p w' p'
theorem doe_fin {w w1 w' : World} {o : OpI} {bel : List By} {r : Int × Img} {p' : Pl} (he : opE M o bel = r) (hs : Step w p w1 p) (hI : ImgW w' ib p' r.2) (hst : Step w1 p w' p') (hR : opR M o = []) : doePost w ib p M o bel (.returned (.tuple #[.string ⟨#[]⟩, .int .i64 r.1])) w' :=
  ⟨p', by rw [hR, he]; rfl, by rw [he]; exact hI, hs.trans hst⟩
set_option maxRecDepth 100000 in
set_option maxHeartbeats 3200000 in
theorem iDoes_calls (n0 : Nat) (o : OpI) (vb u : Value) (bel : List By) (w : World) (h : ImgW w ib p M) (hok : OkI M) (hn : ∀ k, (p.r k).isSome = true → n0 ≤ k) (hvb : BytW w n0 vb o.b) (hu : SlT w u bel) (hs : ∀ s ∈ bel, s.length ≤ maxLen)
    (hul : 0 < bel.length → ∀ k, u.ownBlock = some k → k < n0) : Calls Tryz.prog 11 #[.pointer (some ⟨ib, 0, none⟩), opiV o vb, u] w (doePost w ib p M o bel) := by
  have hfar : ∀ k, k < n0 → p.r k = none := fun k hk => by
    cases hr : p.r k with
    | none => rfl
    | some x =>
      have := hn k (by rw [hr]; rfl)
      omega
  obtain ⟨k, x, lo, b, nm⟩ := o
  obtain ⟨hvs, hvo, hvl⟩ := hvb
  simp only at hvs hvl
  obtain ⟨va, vc, rfl, _⟩ := hvs.open
  obtain ⟨ua, uc, rfl, hul0⟩ := hu.open
  have hvr : 0 < b.length → far p (.slice va b.length vc) := fun hp k hk => hfar k (hvl hp k hk)
  have hur : 0 < bel.length → ∀ k, (Value.slice ua bel.length uc).ownBlock = some k → p.r k = none := fun hp k hk => hfar k (hul hp k hk)
  have B0 := Blk.new w [.int .i64 k, .int .i64 x, .int .i64 lo, .slice va b.length vc, strL nm] 42
  have hf0 := (Fr.refl [] w).alloc (.cells #[.int .i64 k, .int .i64 x, .int .i64 lo, .slice va b.length vc, strL nm] 42)
  have h1 := h.fr0 hf0
  have hr0 := h.new (Nat.le_refl _)
  have hs0 : Step w p (w.alloc (.cells #[.int .i64 k, .int .i64 x, .int .i64 lo, .slice va b.length vc, strL nm] 42)) p := Step.fr0 hf0
  have hu1 := SlF.fr0 hu hf0
  have hv1 := slY_fr0 hvs hf0
  have c0 := B0.cell
  have hz : w.heap.size < (w.alloc (.cells #[.int .i64 k, .int .i64 x, .int .i64 lo, .slice va b.length vc, strL nm] 42)).heap.size := by simp
  obtain ⟨bx, hbx⟩ : ∃ bx, bx = w.heap.size := ⟨_, rfl⟩
  unfold opiV
  simp only
  go_enter Tryz.func11, Tryz.ntmps11
  clear hf0 h hvs hu hvl hul hul0 hvo hn hfar
  by_cases k0 : k = 0
  · subst k0
    go_wp2_with fail
    refine (iRead_calls x lo _ h1 hok).mono ?_
    rintro e w2 ⟨v, rfl, hvv, hvk, _, hf2⟩
    have hcv := conv_str hvv
    have hp : doePost w ib p M ⟨0, x, lo, b, nm⟩ bel (.returned (.tuple #[strL (if insideI M x lo = 0 then readI M x.toNat lo.toNat else []), .int .i64 (insideI M x lo)])) w2 := by
      refine ⟨p, ?_, h1.fr0 hf2, hs0.trans (Step.fr0 hf2)⟩
      have e1 : opR M ⟨0, x, lo, b, nm⟩ = if insideI M x lo = 0 then readI M x.toNat lo.toNat else [] := by
        unfold opR
        simp
      have e2 : opE M ⟨0, x, lo, b, nm⟩ bel = (insideI M x lo, M) := rfl
      rw [e1, e2]
    clear hvv
    generalize (if insideI M x lo = 0 then readI M x.toNat lo.toNat else []) = rr at *
    generalize insideI M x lo = ii at *
    replace hp := hidIt hp
    go_wp2
    go_ret2
    exact hp.out
  by_cases k1 : k = 1
  · subst k1
    have hIw := fun fv W p' hI hbl (hv : SlY W _ b) hr => iWrite_calls (ib := ib) (p := p') (M := M) x (.slice va b.length vc) b fv bel W hI hok hv hr hbl
    have he : opE M ⟨1, x, lo, b, nm⟩ bel = writeE M x b bel := rfl
    have hR : opR M ⟨1, x, lo, b, nm⟩ = [] := rfl
    have B1 : Blk (w.alloc (.cells #[.int .i64 1, .int .i64 x, .int .i64 lo, .slice va b.length vc, strL nm] 42)).drew w.heap.size [.int .i64 1, .int .i64 x, .int .i64 lo, .slice va b.length vc, strL nm] 42 := B0
    have hdr := (Fr.refl [] (w.alloc (.cells #[.int .i64 1, .int .i64 x, .int .i64 lo, .slice va b.length vc, strL nm] 42))).drew
    have h2 := h1.fr0 hdr
    have hs2 := hs0.trans (Step.fr0 hdr)
    have hu2 := SlF.fr0 hu1 hdr
    have hv2 := slY_fr0 hv1 hdr
    clear h1 hs0 hu1 hv1 c0
    go_wp2_with fail
    refine wp_region_G (fun X => Blk X w.heap.size [.int .i64 1, .int .i64 x, .int .i64 lo, .slice va b.length vc, strL nm] 42) [(true, 0), (true, 1), (true, 2), (true, 3), (true, 4), (true, 5), (false, 6), (false, 7), (true, 8), (true, 9)] (by as_aux_lemma => kernel_rfl) (by as_aux_lemma => kernel_rfl) (B1) ?_
    simp only [inOrder, List.map_cons, List.map_nil, List.getD_cons_zero, List.getD_cons_succ]
    iterate 2
      refine wpG_pure fun K hK => ?_
      go_simp
      refine hK _ ?_
      clear hK K
    refine wpG_val (.int .i64 x) (by first | rfl | go_simp) (fun X hX => by have cc := Blk.cell hX; go_simp) ?_
    simp only [Act.put, List.setIfInBounds_toArray, List.set_cons_zero, List.set_cons_succ]
    iterate 1
      refine wpG_pure fun K hK => ?_
      go_simp
      refine hK _ ?_
      clear hK K
    refine wpG_val (.slice va b.length vc) (by first | rfl | go_simp) (fun X hX => by have cc := Blk.cell hX; go_simp) ?_
    simp only [Act.put, List.setIfInBounds_toArray, List.set_cons_zero, List.set_cons_succ]
    iterate 1
      refine wpG_pure fun K hK => ?_
      go_simp
      refine hK _ ?_
      clear hK K
    refine wpG_one fun K hK => ?_
    go_simp
    refine (Tells_calls _ bel _ h2 hu2 hs hur).mono ?_
    rintro e w6 ⟨fv, rfl, hbl, hf6⟩
    refine hK _ _ (B1.fr0 hf6) ?_
    clear hK K
    have h6 := h2.fr0 hf6
    have hs6 := hs2.trans (Step.fr0 hf6)
    have B6 := B1.fr0 hf6
    refine wpG_one fun K hK => ?_
    go_simp
    refine (hIw fv w6 p h6 hbl (slY_fr0 hv2 hf6) hvr).mono ?_
    rintro e w7 ⟨p7, rfl, h7, hs7⟩
    refine hK _ _ ((box_step B6 hr0 hs7).1) ?_
    clear hK K
    iterate 2
      refine wpG_pure fun K hK => ?_
      go_simp
      refine hK _ ?_
      clear hK K
    refine wpG_end ?_
    have hp := hidIt (doe_fin he hs6 h7 hs7 hR)
    clear he hR h7 hs7 h6 hs6 B6 B1 h2 hs2 hu2 hv2 hIw
    generalize writeE M x b bel = r at *
    go_wp2
    go_ret2
    exact hp.out
  by_cases k2 : k = 2
  · subst k2
    have he : opE M ⟨2, x, lo, b, nm⟩ bel = zeroE M x lo bel := rfl
    have hR : opR M ⟨2, x, lo, b, nm⟩ = [] := rfl
    have B1 : Blk (w.alloc (.cells #[.int .i64 2, .int .i64 x, .int .i64 lo, .slice va b.length vc, strL nm] 42)).drew w.heap.size [.int .i64 2, .int .i64 x, .int .i64 lo, .slice va b.length vc, strL nm] 42 := B0
    have hdr := (Fr.refl [] (w.alloc (.cells #[.int .i64 2, .int .i64 x, .int .i64 lo, .slice va b.length vc, strL nm] 42))).drew
    have h2 := h1.fr0 hdr
    have hs2 := hs0.trans (Step.fr0 hdr)
    have hu2 := SlF.fr0 hu1 hdr
    clear h1 hs0 hu1 hv1 c0
    go_wp2_with fail
    refine wp_region_G (fun X => Blk X w.heap.size [.int .i64 2, .int .i64 x, .int .i64 lo, .slice va b.length vc, strL nm] 42) [(true, 0), (true, 1), (true, 2), (true, 3), (true, 4), (true, 5), (false, 6), (false, 7), (true, 8), (true, 9)] (by as_aux_lemma => kernel_rfl) (by as_aux_lemma => kernel_rfl) (B1) ?_
    simp only [inOrder, List.map_cons, List.map_nil, List.getD_cons_zero, List.getD_cons_succ]
    iterate 2
      refine wpG_pure fun K hK => ?_
      go_simp
      refine hK _ ?_
      clear hK K
    refine wpG_val (.int .i64 x) (by first | rfl | go_simp) (fun X hX => by have cc := Blk.cell hX; go_simp) ?_
    simp only [Act.put, List.setIfInBounds_toArray, List.set_cons_zero, List.set_cons_succ]
    iterate 1
      refine wpG_pure fun K hK => ?_
      go_simp
      refine hK _ ?_
      clear hK K
    refine wpG_val (.int .i64 lo) (by first | rfl | go_simp) (fun X hX => by have cc := Blk.cell hX; go_simp) ?_
    simp only [Act.put, List.setIfInBounds_toArray, List.set_cons_zero, List.set_cons_succ]
    iterate 1
      refine wpG_pure fun K hK => ?_
      go_simp
      refine hK _ ?_
      clear hK K
    refine wpG_one fun K hK => ?_
    go_simp
    refine (Tells_calls _ bel _ h2 hu2 hs hur).mono ?_
    rintro e w6 ⟨fv, rfl, hbl, hf6⟩
    refine hK _ _ (B1.fr0 hf6) ?_
    clear hK K
    have h6 := h2.fr0 hf6
    have hs6 := hs2.trans (Step.fr0 hf6)
    have B6 := B1.fr0 hf6
    refine wpG_one fun K hK => ?_
    go_simp
    refine (iZero_calls x lo fv bel w6 h6 hok hbl).mono ?_
    rintro e w7 ⟨p7, rfl, h7, hs7⟩
    refine hK _ _ ((box_step B6 hr0 hs7).1) ?_
    clear hK K
    iterate 2
      refine wpG_pure fun K hK => ?_
      go_simp
      refine hK _ ?_
      clear hK K
    refine wpG_end ?_
    have hp := hidIt (doe_fin he hs6 h7 hs7 hR)
    clear he hR h7 hs7 h6 hs6 B6 B1 h2 hs2 hu2
    generalize zeroE M x lo bel = r at *
    go_wp2
    go_ret2
    exact hp.out
  by_cases k3 : k = 3
  · subst k3
    have he : opE M ⟨3, x, lo, b, nm⟩ bel = discardE M x lo := rfl
    have hR : opR M ⟨3, x, lo, b, nm⟩ = [] := rfl
    go_wp2_with fail
    refine (iDiscard_calls x lo _ h1 hok).mono ?_
    rintro e w7 ⟨p7, rfl, h7, hs7⟩
    have hp := hidIt (doe_fin he hs0 h7 hs7 hR)
    clear he hR h7 hs7
    generalize discardE M x lo = r at *
    go_wp2
    go_ret2
    exact hp.out
  by_cases k4 : k = 4
  · subst k4
    have he : opE M ⟨4, x, lo, b, nm⟩ bel = resizeE M lo := rfl
    have hR : opR M ⟨4, x, lo, b, nm⟩ = [] := rfl
    go_wp2_with fail
    refine (iResize_calls lo _ h1 hok).mono ?_
    rintro e w7 ⟨p7, rfl, h7, hs7⟩
    have hp := hidIt (doe_fin he hs0 h7 hs7 hR)
    clear he hR h7 hs7
    generalize resizeE M lo = r at *
    go_wp2
    go_ret2
    exact hp.out
  by_cases k5 : k = 5
  · subst k5
    have he : opE M ⟨5, x, lo, b, nm⟩ bel = snapE M nm := rfl
    have hR : opR M ⟨5, x, lo, b, nm⟩ = [] := rfl
    go_wp2_with fail
    refine (iSnap_calls nm _ h1 hok).mono ?_
    rintro e w7 ⟨p7, rfl, h7, hs7⟩
    have hp := hidIt (doe_fin he hs0 h7 hs7 hR)
    clear he hR h7 hs7
    generalize snapE M nm = r at *
    go_wp2
    go_ret2
    exact hp.out
  by_cases k6 : k = 6
  · subst k6
    have he : opE M ⟨6, x, lo, b, nm⟩ bel = applyE M nm := rfl
    have hR : opR M ⟨6, x, lo, b, nm⟩ = [] := rfl
    go_wp2_with fail
    refine (iApply_calls nm _ h1 hok).mono ?_
    rintro e w7 ⟨p7, rfl, h7, hs7⟩
    have hp := hidIt (doe_fin he hs0 h7 hs7 hR)
    clear he hR h7 hs7
    generalize applyE M nm = r at *
    go_wp2
    go_ret2
    exact hp.out
  by_cases k7 : k = 7
  · subst k7
    have he : opE M ⟨7, x, lo, b, nm⟩ bel = dropR M nm := rfl
    have hR : opR M ⟨7, x, lo, b, nm⟩ = [] := rfl
    go_wp2_with fail
    refine (iDrop_calls nm _ h1 hok).mono ?_
    rintro e w7 ⟨p7, rfl, h7, hs7⟩
    have hp := hidIt (doe_fin he hs0 h7 hs7 hR)
    clear he hR h7 hs7
    generalize dropR M nm = r at *
    go_wp2
    go_ret2
    exact hp.out
  have he : opE M ⟨k, x, lo, b, nm⟩ bel = (0, M) := by unfold opE; simp [k0, k1, k2, k3, k4, k5, k6, k7]
  have hR : opR M ⟨k, x, lo, b, nm⟩ = [] := by unfold opR; simp [k0]
  have hp := hidIt (doe_fin he hs0 h1 (Step.refl _ _) hR)
  have e0 : (k == 0) = false := by simpa using k0
  have e1 : (k == 1) = false := by simpa using k1
  have e2 : (k == 2) = false := by simpa using k2
  have e3 : (k == 3) = false := by simpa using k3
  have e4 : (k == 4) = false := by simpa using k4
  have e5 : (k == 5) = false := by simpa using k5
  have e6 : (k == 6) = false := by simpa using k6
  have e7 : (k == 7) = false := by simpa using k7
  clear he hR k0 k1 k2 k3 k4 k5 k6 k7
  go_wp2
  go_ret2
  exact hp.out
end
end Go.Proofs.YtilhbjjjmdnjmaaGreat
