/-
  law19.alive, law19.apart.
-/
import Derived.Test.YtmbbmombhkaeoaaChkN
namespace Go.Proofs.Ytmbbmombhkaeoaa
open Go.RowKit Go.Maps
attribute [local go_sem] Oper.semAt_some

theorem Sl.of_blk {w : World} {b n : Nat} {cs : List Value} {t : TypeId} (h : Blk w b cs t) (hn : n ≤ maxLen) : Sl w (.slice (some ⟨b, 0, none⟩) n n) n cs := by
  refine ⟨_, n, rfl, Nat.le_refl _, hn, .inr ⟨b, 0, rfl, h.lt, fun j u hu => ?_⟩⟩
  rw [h.cell]; simpa using hu
def ls0 : List (List Slt) := [[(1, 0, true), (1, 1, false)]]
def n0 : List Int := [2, 0]
theorem alive_more : pickTo (moreB n0 (rcL n0.length ls0.flatten)) n0.length = [0] := by decide
theorem alive_less : pickTo (lessB n0 (rcL n0.length ls0.flatten)) n0.length = [1] := by decide
theorem alive_bad : pickTo (badAt n0.length ls0.flatten) ls0.flatten.length = [] := by decide
theorem alive_wrong : pickTo (wrongAt n0.length ls0.flatten (len0 ls0)) ls0.flatten.length = [1] := by decide
theorem alive_rc : rcL n0.length (ls0.flatten.mapIdx fun _ => fix1 n0.length) = [1, 1] := by decide
theorem alive_cnt : cntTo (badAt n0.length ls0.flatten) ls0.flatten.length + cntTo (turn2 n0.length (len0 ls0) [1, 1] (ls0.flatten.mapIdx fun _ => fix1 n0.length)) ls0.flatten.length + cntTo (diffAt n0 [1, 1]) n0.length = 3 := by decide
theorem alive_flat : (ls0.flatten.mapIdx fun _ => fix1 n0.length).mapIdx (fix2 n0.length (len0 ls0) [1, 1]) = [[((1, 0, true) : Slt), (1, 1, true)]].flatten := by decide
set_option maxRecDepth 100000 in
set_option maxHeartbeats 3200000 in
theorem alive_calls (w : World) : Calls Try.prog 9 #[] w fun e w' => e = .returned (.bool true) ∧ Fr [] w w' := by
  have Ba : Blk (((w.alloc (.cells #[.int .i64 1, .int .i64 0, .bool true, .int .i64 1, .int .i64 1, .bool false] 45)).alloc (.cells #[.slice (some ⟨w.heap.size, 0, none⟩) 2 2] 41)).alloc (.cells #[.int .i64 2, .int .i64 0] 3)) w.heap.size [.int .i64 1, .int .i64 0, .bool true, .int .i64 1, .int .i64 1, .bool false] 45 := ((Blk.new w [_, _, _, _, _, _] _).alloc _).alloc _
  have Bb : Blk (((w.alloc (.cells #[.int .i64 1, .int .i64 0, .bool true, .int .i64 1, .int .i64 1, .bool false] 45)).alloc (.cells #[.slice (some ⟨w.heap.size, 0, none⟩) 2 2] 41)).alloc (.cells #[.int .i64 2, .int .i64 0] 3)) (w.heap.size + 1) [.slice (some ⟨w.heap.size, 0, none⟩) 2 2] 41 := (Blk.new' (by simp) [_] _).alloc _
  have Bc : Blk (((w.alloc (.cells #[.int .i64 1, .int .i64 0, .bool true, .int .i64 1, .int .i64 1, .bool false] 45)).alloc (.cells #[.slice (some ⟨w.heap.size, 0, none⟩) 2 2] 41)).alloc (.cells #[.int .i64 2, .int .i64 0] 3)) (w.heap.size + 2) [.int .i64 2, .int .i64 0] 3 := Blk.new' (by simp) [_, _] _
  have hf0 := (((Fr.refl [] w).alloc (.cells #[.int .i64 1, .int .i64 0, .bool true, .int .i64 1, .int .i64 1, .bool false] 45)).alloc (.cells #[.slice (some ⟨w.heap.size, 0, none⟩) 2 2] 41)).alloc (.cells #[.int .i64 2, .int .i64 0] 3)
  have hsr : ∀ X, Blk X w.heap.size [.int .i64 1, .int .i64 0, .bool true, .int .i64 1, .int .i64 1, .bool false] 45 → Blk X (w.heap.size + 1) [.slice (some ⟨w.heap.size, 0, none⟩) 2 2] 41 → SlR X (.slice (some ⟨w.heap.size + 1, 0, none⟩) 1 1) ls0 := fun X h1 h2 =>
    ⟨[.slice (some ⟨w.heap.size, 0, none⟩) 2 2], rfl, Sl.of_blk h2 (by decide), fun i u hu => by
      cases i with
      | zero => simp at hu; subst hu; exact Sl.of_blk h1 (by decide)
      | succ i => simp at hu⟩
  have kL := Look_calls (.slice (some ⟨w.heap.size + 2, 0, none⟩) 2 2) (.slice (some ⟨w.heap.size + 1, 0, none⟩) 1 1) n0 ls0 _ (Sl.of_blk Bc (by decide)) (hsr _ Ba Bb) (by decide) (by decide)
  go_enter Try.func9, Try.ntmps9
  go_wp2_with fail
  refine kL.mono ?_
  rintro e w1 ⟨v0, v1, v2, v3, rfl, s0, s1, s2, s3, hf1, _⟩
  rw [alive_more] at s0
  rw [alive_less] at s1
  rw [alive_bad] at s2
  rw [alive_wrong] at s3
  replace Ba := Ba.fr0 hf1
  replace Bb := Bb.fr0 hf1
  have hz1 := hf1.size
  simp only [World.size_alloc] at hz1
  replace hf1 := hf0.trans0 hf1
  clear kL Bc hf0
  obtain ⟨a0, p0, rfl, _⟩ := s0.open
  obtain ⟨a1, p1, rfl, _⟩ := s1.open
  obtain ⟨a2, p2, rfl, _⟩ := s2.open
  obtain ⟨a3, p3, rfl, _⟩ := s3.open
  simp only [List.length_cons, List.length_nil, Nat.zero_add] at s0 s1 s2 s3
  have hfa := ((Fr.refl [] w1).alloc (.cells #[.slice a0 1 p0, .slice a1 1 p1, .slice a2 0 p2, .slice a3 1 p3] 27)).alloc (.cells #[.int .i64 2, .int .i64 0] 3)
  have Br : Blk ((w1.alloc (.cells #[.slice a0 1 p0, .slice a1 1 p1, .slice a2 0 p2, .slice a3 1 p3] 27)).alloc (.cells #[.int .i64 2, .int .i64 0] 3)) w1.heap.size [.slice a0 1 p0, .slice a1 1 p1, .slice a2 0 p2, .slice a3 1 p3] 27 := (Blk.new w1 [_, _, _, _] _).alloc _
  have Bc : Blk ((w1.alloc (.cells #[.slice a0 1 p0, .slice a1 1 p1, .slice a2 0 p2, .slice a3 1 p3] 27)).alloc (.cells #[.int .i64 2, .int .i64 0] 3)) (w1.heap.size + 1) [.int .i64 2, .int .i64 0] 3 := Blk.new' (by simp) [_, _] _
  have kR := Repair_calls (.slice (some ⟨w1.heap.size + 1, 0, none⟩) 2 2) (.slice (some ⟨w.heap.size + 1, 0, none⟩) 1 1) n0 ls0 _ (Sl.of_blk Bc (by decide)) (hsr _ (Ba.fr0 hfa) (Bb.fr0 hfa)) (by decide) (by decide)
  go_wp2_with fail
  refine kR.mono ?_
  rintro e w2 ⟨vn, vo, vs, ls2, rfl, hn, hO, hlens, hflat, hf2⟩
  rw [alive_rc] at hn hflat ⊢
  rw [alive_cnt]
  rw [alive_flat] at hflat
  have e2 : ls2 = [[((1, 0, true) : Slt), (1, 1, true)]] := eq_of_flat _ _ (hlens.trans rfl) hflat
  subst e2
  have hz2 := hf2.size
  simp only [World.size_alloc] at hz2
  replace Br := Br.fr0 hf2
  replace Ba := (Ba.fr0 hfa).fr0 hf2
  replace Bb := (Bb.fr0 hfa).fr0 hf2
  have hf12 := hfa.trans0 hf2
  replace s0 := SlF.fr0 s0 hf12
  replace s1 := SlF.fr0 s1 hf12
  replace s2 := SlF.fr0 s2 hf12
  replace s3 := SlF.fr0 s3 hf12
  have hw2 := hf1.trans0 hf12
  have sn : SlI w2 vn [1, 1] := SlF.of_owns hn
  obtain ⟨an, pn, rfl, _⟩ := sn.open
  obtain ⟨go, co, rfl, _, _⟩ := owns_succ hO.row (by decide)
  obtain ⟨g, cg, hvi, _, _, _, hgl, hog⟩ := hO.at (i := 0) (k := 1) (by rw [hO.len]; decide) (by decide)
  have hoc := owns_at hO.row hvi
  obtain ⟨⟨_, _, hoo⟩, _⟩ := owns_at3 hog (i := 1) (by decide)
  have hgol := (hO.row.lt go rfl).2
  have st : ∀ X, Fr [] w2 X → (∀ o, X.cell? ⟨w1.heap.size, o, none⟩ = [Value.slice a0 1 p0, .slice a1 1 p1, .slice a2 0 p2, .slice a3 1 p3][o]?) ∧ SlI X (.slice a0 1 p0) [0] ∧ SlI X (.slice a1 1 p1) [1] ∧ SlI X (.slice a2 0 p2) [] ∧ SlI X (.slice a3 1 p3) [1] ∧ SlI X (.slice an 2 pn) [1, 1] ∧
      X.cell? ⟨go, 0, none⟩ = some (.slice (some ⟨g, 0, none⟩) 2 cg) ∧ X.cell? ⟨g, 5, none⟩ = some (.bool true) ∧ X.cell? ⟨w.heap.size + 1, 0, none⟩ = some (.slice (some ⟨w.heap.size, 0, none⟩) 2 2) ∧ X.cell? ⟨w.heap.size, 5, none⟩ = some (.bool false) := fun X hX =>
    ⟨(Br.fr0 hX).cell, SlF.fr0 s0 hX, SlF.fr0 s1 hX, SlF.fr0 s2 hX, SlF.fr0 s3 hX, SlF.fr0 sn hX, (World.cell?_of_block (hX.block go hgol (by simp))).trans hoc.1, (World.cell?_of_block (hX.block g hgl (by simp))).trans hoo, (Bb.fr0 hX).cell 0, (Ba.fr0 hX).cell 5⟩
  have hX := Fr.refl [] w2
  obtain ⟨cr, q0, q1, q2, q3, qn, c0, cs, ca, cb⟩ := st w2 hX
  clear hO hoc hoo hog hn sn s0 s1 s2 s3 Br Ba Bb kR hfa hf12 hf2 hsr hlens hflat hvi
  go_wp2_with fail
  refine (SameI_calls (.slice a0 1 p0) _ [0] _ (SlF.fr0 q0 ((Fr.refl [] _).alloc _)) (Sl.of_blk (Blk.new _ [_] _) (by decide))).mono ?_
  rintro e X ⟨rfl, hfx⟩
  replace hX := hX.trans0 (((Fr.refl [] _).alloc _).trans0 hfx)
  clear hfx cr q0 q1 q2 q3 qn c0 cs ca cb
  obtain ⟨cr, q0, q1, q2, q3, qn, c0, cs, ca, cb⟩ := st X hX
  go_wp2_with fail
  refine (SameI_calls (.slice a1 1 p1) _ [1] _ (SlF.fr0 q1 ((Fr.refl [] _).alloc _)) (Sl.of_blk (Blk.new _ [_] _) (by decide))).mono ?_
  rintro e X ⟨rfl, hfx⟩
  replace hX := hX.trans0 (((Fr.refl [] _).alloc _).trans0 hfx)
  clear hfx cr q0 q1 q2 q3 qn c0 cs ca cb
  obtain ⟨cr, q0, q1, q2, q3, qn, c0, cs, ca, cb⟩ := st X hX
  go_wp2_with fail
  refine (SameI_calls (.slice a3 1 p3) _ [1] _ (SlF.fr0 q3 ((Fr.refl [] _).alloc _)) (Sl.of_blk (Blk.new _ [_] _) (by decide))).mono ?_
  rintro e X ⟨rfl, hfx⟩
  replace hX := hX.trans0 (((Fr.refl [] _).alloc _).trans0 hfx)
  clear hfx cr q0 q1 q2 q3 qn c0 cs ca cb
  obtain ⟨cr, q0, q1, q2, q3, qn, c0, cs, ca, cb⟩ := st X hX
  go_wp2_with fail
  refine (Clean_calls _ _ _ _ [0] [1] [] [1] _ q0 q1 q2 q3 (by decide) (by decide) (by decide) (by decide)).mono ?_
  rintro e X4 ⟨rfl, hfx⟩
  replace hX := hX.trans0 hfx
  clear hfx cr q0 q1 q2 q3 qn c0 cs ca cb
  obtain ⟨cr, q0, q1, q2, q3, qn, c0, cs, ca, cb⟩ := st X4 hX
  go_wp2_with fail
  refine (SameI_calls (.slice an 2 pn) _ [1, 1] _ (SlF.fr0 qn ((Fr.refl [] _).alloc _)) (Sl.of_blk (Blk.new _ [_, _] _) (by decide))).mono ?_
  rintro e X ⟨rfl, hfx⟩
  replace hX := hX.trans0 (((Fr.refl [] _).alloc _).trans0 hfx)
  clear hfx cr q0 q1 q2 q3 qn c0 cs ca cb
  obtain ⟨cr, q0, q1, q2, q3, qn, c0, cs, ca, cb⟩ := st X hX
  go_wp2
  go_ret
  exact ⟨rfl, hw2.trans0 hX⟩
set_option maxRecDepth 100000 in
theorem apart_calls (v u : Value) (a b : List Int) (w : World) (hv : SlI w v a) (hu : SlI w u b) (hd : ∀ x ∈ a, x ∉ b) : Calls Try.prog 20 #[v, u] w fun e w' => e = .returned (.bool true) ∧ Fr [] w w' := by
  obtain ⟨a1, cap, rfl, hlc, hcm, _⟩ := hv.open
  obtain ⟨a2, cap', rfl, hlc', hcm', _⟩ := hu.open
  unfold maxLen at hcm hcm'
  go_enter Try.func20, Try.ntmps20
  go_wp2
  go_loopw [11] (fun i wr => ∃ k : Nat, k ≤ a.length ∧ i = .int .i64 k ∧ Fr [] w wr) (fun i _ => a.length - (intOf i).toNat)
  case atStart => exact ⟨0, Nat.zero_le _, rfl, Fr.refl _ _⟩
  case round =>
    obtain ⟨k, hk, rfl, hF⟩ := hrel
    by_cases hlt : k < a.length
    · obtain ⟨b1, o1, rfl, hb1, e1⟩ := SlI.at (SlF.fr0 hv hF : SlI _ _ _) hlt
      have hmem : a.getD k 0 ∈ a := List.mem_of_getElem? (getD_some 0 hlt)
      have hd1 := hd _ hmem
      generalize a.getD k 0 = x at *
      generalize wr = wo at *
      go_wp2
      go_loopw [17] (fun i wr => ∃ j : Nat, j ≤ b.length ∧ i = .int .i64 j ∧ Fr [] wo wr) (fun i _ => b.length - (intOf i).toNat)
      case atStart => exact ⟨0, Nat.zero_le _, rfl, Fr.refl _ _⟩
      case round =>
        obtain ⟨j, hj, rfl, hF2⟩ := hrel
        by_cases hlj : j < b.length
        · obtain ⟨b2, o2, rfl, hb2, e2⟩ := SlI.at (SlF.fr0 (SlF.fr0 hu hF) hF2 : SlI _ _ _) hlj
          have hxy : ¬ x = b.getD j 0 := fun e => hd1 (by rw [e]; exact List.mem_of_getElem? (getD_some 0 hlj))
          generalize b.getD j 0 = y at *
          have hb : (x == y) = false := by simp [hxy]
          go_wp2
          go_roundw
          case rel => exact ⟨j + 1, by omega, by go_num, hF2⟩
          case measure => simp [intOf]; omega
        · go_wp2
          go_roundw
          case rel => exact ⟨k + 1, by omega, by go_num, hF.trans0 hF2⟩
          case measure => simp [intOf]; omega
    · go_wp2
      go_ret
      exact ⟨rfl, hF⟩
end Go.Proofs.Ytmbbmombhkaeoaa
