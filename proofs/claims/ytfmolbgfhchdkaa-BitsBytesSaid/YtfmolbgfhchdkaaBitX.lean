/-
  law10.made.
-/
import Derived.Test.YtfmolbgfhchdkaaBitV
namespace Go.Proofs.Ytfmolbgfhchdkaa
open Go.RowKit Go.Maps

/-- what there is behind a script -/
def runS (g : Nat) (st : Nat × List Bool) (ops : List Op3) : Nat × List Bool := ops.foldl (fun s o => (doS g s o).1) st
theorem runS_succ (g : Nat) (st : Nat × List Bool) (ops : List Op3) (k : Nat) (hk : k < ops.length) : runS g st (ops.take (k + 1)) = (doS g (runS g st (ops.take k)) (ops.getD k z3)).1 := by
  have hg : ops[k] = ops.getD k z3 := by rw [List.getD_eq_getElem?_getD, List.getElem?_eq_getElem hk]; rfl
  rw [List.take_succ_eq_append_getElem hk, hg]
  unfold runS
  rw [List.foldl_append]
  rfl
def stOf (s g : Int) (ops : List Op3) : Nat × List Bool := runS g.toNat (s.toNat, List.replicate (gran s.toNat g.toNat) false) ops
/-- there are such bits -/
def okMade (s g : Int) (ops : List Op3) : Bool := okNew s g && fewS s ops
def someBits (v : Value) : Prop := ∃ (x y : Int) (a : Option Addr) (n c : Nat), v = .agg #[.int .i64 x, .int .i64 y, .slice a n c]
theorem someBits.z : someBits z0 := ⟨0, 0, none, 0, 0, rfl⟩
theorem RefB.some {w : World} {v : Value} {S g : Nat} {l : List Bool} (h : RefB w v S g l) : someBits v := by
  obtain ⟨u, rfl, h2, _⟩ := h.row
  obtain ⟨a, c, rfl, _⟩ := SlF.open h2
  exact ⟨_, _, a, _, c, rfl⟩
set_option maxRecDepth 100000 in
set_option maxHeartbeats 1600000 in
theorem made_new (s g : Int) (v : Value) (w : World) (h : okNew s g = false) : Calls Try.prog 10 #[.int .i64 s, .int .i64 g, v] w
      fun e w' => e = .returned (.tuple #[.pointer none, z0, .bool false]) ∧ Fr [] w w' := by
  go_enter Try.func10, Try.ntmps10
  go_wp2_with fail
  refine (New_no s g _ h).mono ?_
  rintro e w1 ⟨rfl, rfl⟩
  go_wp2_with fail
  refine (rNew_no s g _ h).mono ?_
  rintro e w1 ⟨rfl, hf⟩
  unfold z0
  have B7 : Blk w1 w.heap.size [.int .i64 0, .int .i64 0, .slice none 0 0] 28 := (Blk.new w [_, _, _] _).fr0 hf
  have hF := ((Fr.refl [] w).alloc (.cells #[.int .i64 0, .int .i64 0, .slice none 0 0] 28)).trans0 hf
  clear hf
  have b7 := B7.cell
  have f7 := B7.frozen
  have l7 := B7.lt
  go_wp2_with fail
  refine wp_region_still_tail 2 follows (by as_aux_lemma => kernel_rfl) ?_
  simp only [List.take_succ_cons, List.take_zero, List.drop_succ_cons, List.drop_zero]
  change wpStill _ _ (World.drew _) _ _ _
  iterate 2 still_step
  refine wpStill_nil ?_
  change wpList _ _ _ _ _ (World.drew _)
  go_wp2
  exact bodyPost_ret (v := .tuple #[.pointer none, z0, .bool false]) (by simp [results, Try.results10, go_sem, z0, b7, l7]) rfl ⟨rfl, (((hF.setCell (.inr (by simp)) _).setCell (.inr (by simp)) _).setCell (.inr (by simp)) _).alloc _ |>.drew⟩
set_option maxRecDepth 100000 in
set_option maxHeartbeats 1600000 in
theorem made_few (s g : Int) (v : Value) (l : List Op3) (w : World) (h : okNew s g = true) (hv : SlP w v l) (hn : fewS s l = false) : Calls Try.prog 10 #[.int .i64 s, .int .i64 g, v] w
      fun e w' => ∃ rv, e = .returned (.tuple #[.pointer none, rv, .bool false]) ∧ someBits rv ∧ Fr [] w w' := by
  have hs1 : 0 ≤ s ∧ s ≤ 4096 := by simp [okNew, okSec] at h; exact h.1
  have hp : pow2 g = true := by simp [okNew] at h; exact h.2
  have hg := pow2_le hp
  obtain ⟨S, rfl⟩ := Int.eq_ofNat_of_zero_le hs1.1
  obtain ⟨G, rfl⟩ := Int.eq_ofNat_of_zero_le (by omega : 0 ≤ g)
  have key := fun w => New_yes (S : Int) (G : Int) w h
  simp only [Int.toNat_natCast] at key
  go_enter Try.func10, Try.ntmps10
  go_wp2_with fail
  refine (key _).mono ?_
  rintro e w1 ⟨tb, mb, rfl, ht, hm, hW, hf1⟩
  have B7 : Blk w1 w.heap.size [.int .i64 0, .int .i64 0, .slice none 0 0] 28 := (Blk.new w [_, _, _] _).fr0 hf1
  go_wp2_with fail
  refine (rNew_yes S G _ (by omega) hp).mono ?_
  rintro e w2 ⟨u, rfl, hown, hf2⟩
  unfold rb
  obtain ⟨au, cu, rfl, _, _, _⟩ := Sl.of_owns hown
  replace B7 := B7.fr0 hf2
  have b7 := B7.cell
  have f7 := B7.frozen
  have l7 := B7.lt
  have hF2 : Fr [] w w2 := (((Fr.refl _ w).alloc _).trans0 hf1).trans0 hf2
  clear hf1 hf2
  have hv3 := (hv.fr0 hF2).fr0 ((Fr.refl _ _).alloc (.cells #[.int .i64 S, .int .i64 G, .slice au (gran S G) cu] 28))
  go_wp2_with fail
  refine (few_calls (S : Int) v l _ hv3).mono ?_
  rintro e w3 ⟨rfl, hf3⟩
  rw [hn]
  have B11 := (Blk.new w2 [.int .i64 S, .int .i64 G, .slice au (gran S G) cu] 28).fr0 hf3
  replace B7 := (B7.alloc (.cells #[.int .i64 S, .int .i64 G, .slice au (gran S G) cu] 28)).fr0 hf3
  have hF3 := (hF2.alloc (.cells #[.int .i64 S, .int .i64 G, .slice au (gran S G) cu] 28)).trans0 hf3
  have b7 := B7.cell
  have f7 := B7.frozen
  have l7 := B7.lt
  have b11 := B11.cell
  have l11 := B11.lt
  clear hf3 hF2 hv3 key hown
  go_wp2_with fail
  refine wp_region_still_tail 2 follows (by as_aux_lemma => kernel_rfl) ?_
  simp only [List.take_succ_cons, List.take_zero, List.drop_succ_cons, List.drop_zero]
  change wpStill _ _ (World.drew _) _ _ _
  iterate 2 still_step
  refine wpStill_nil ?_
  change wpList _ _ _ _ _ (World.drew _)
  go_wp2
  exact bodyPost_ret (v := .tuple #[.pointer none, rb S G (.slice au (gran S G) cu), .bool false]) (by simp [results, Try.results10, go_sem, rb, b7]) rfl ⟨_, rfl, ⟨_, _, _, _, _, rfl⟩, (((hF3.setCell (.inr (by simp)) _).setCell (.inr (by simp)) _).setCell (.inr (by simp)) _).drew⟩
def madePost (s g : Int) (l : List Op3) (w : World) (e : Ending) (w' : World) : Prop :=
  ∃ tb mb rv, e = .returned (.tuple #[.pointer (some ⟨tb, 0, none⟩), rv, .bool true]) ∧ BitW w' tb mb (stOf s g l).1 g.toNat (stOf s g l).2 ∧ RefB w' rv (stOf s g l).1 g.toNat (stOf s g l).2 ∧ w.heap.size ≤ tb ∧ w.heap.size ≤ mb ∧ Fr [] w w'
theorem runS_len {g : Nat} : ∀ (ops : List Op3) (st : Nat × List Bool), st.1 ≤ 4096 → st.2.length = gran st.1 g → (runS g st ops).1 ≤ 4096 ∧ (runS g st ops).2.length = gran (runS g st ops).1 g
  | [], _, h1, h2 => ⟨h1, h2⟩
  | o :: ops, st, h1, h2 => by
    have := doS_len (o := o) h1 h2
    exact runS_len ops (doS g st o).1 this.1 this.2
end Go.Proofs.Ytfmolbgfhchdkaa
