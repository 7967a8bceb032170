/-
  check.Look of rows of which nothing is amiss: counts, as ints hold them.
-/
import Derived.Test.YtmbbmombhkaeoaaChkL
import Derived.Test.YtmbbmombhkaeoaaWkJ
namespace Go.Proofs.Ytmbbmombhkaeoaa
open Go.RowKit Go.Maps
attribute [local go_sem] Oper.semAt_some
attribute [local go_sem high] equalSlot0 equalSlotR0

def wrongAtW (N : Nat) (fs : List Slt) (l0 k : Nat) : Bool := hasS (fs.getD k zS) (N : Int) && wrongS (rcW N fs) (decide (k < l0)) (fs.getD k zS)
/-- what Look answers -/
def LookPostW (n : List Int) (ls : List (List Slt)) (w : World) (e : Ending) (w' : World) : Prop :=
  ∃ v0 v1 v2 v3, e = .returned (.agg #[v0, v1, v2, v3]) ∧ SlI w' v0 (pickTo (moreB n (rcW n.length ls.flatten)) n.length) ∧ SlI w' v1 (pickTo (lessB n (rcW n.length ls.flatten)) n.length) ∧
    SlI w' v2 (pickTo (badAt n.length ls.flatten) ls.flatten.length) ∧ SlI w' v3 (pickTo (wrongAtW n.length ls.flatten (len0 ls)) ls.flatten.length) ∧ Fr [] w w' ∧ ∀ b, v0.ownBlock = some b ∨ v1.ownBlock = some b ∨ v2.ownBlock = some b ∨ v3.ownBlock = some b → w.heap.size ≤ b
set_option maxRecDepth 100000 in
set_option maxHeartbeats 6400000 in
theorem Look_callsW (v u : Value) (n : List Int) (ls : List (List Slt)) (w : World) (hv : SlI w v n) (hu : SlR w u ls) (ht : Bnd ls) (hn : n.length ≤ 1048576) (hcb : ∀ k, k < ls.flatten.length → badAt n.length ls.flatten k = false) (hcw : ∀ k, k < ls.flatten.length → wrongAtW n.length ls.flatten (len0 ls) k = false) : Calls Try.prog 10 #[v, u] w (LookPostW n ls w) := by
  obtain ⟨an, capn, rfl, hlcn, hcmn, _⟩ := hv.open
  obtain ⟨a, cap, rfl, hlc, hcm⟩ := hu.open
  have B2 : Blk (((w.alloc (.cells #[.slice an n.length capn] 22)).alloc (.cells #[.slice none 0 0, .slice none 0 0, .slice none 0 0, .slice none 0 0] 27)).alloc (.cells #[.slice none 0 0, .slice none 0 0, .slice none 0 0, .slice none 0 0] 27)) w.heap.size [.slice an n.length capn] 22 := ((Blk.new w [_] _).alloc _).alloc _
  have B4 : Blk (((w.alloc (.cells #[.slice an n.length capn] 22)).alloc (.cells #[.slice none 0 0, .slice none 0 0, .slice none 0 0, .slice none 0 0] 27)).alloc (.cells #[.slice none 0 0, .slice none 0 0, .slice none 0 0, .slice none 0 0] 27)) (w.heap.size + 1) [.slice none 0 0, .slice none 0 0, .slice none 0 0, .slice none 0 0] 27 := (Blk.new' (by simp) [_, _, _, _] _).alloc _
  have B5 : Blk (((w.alloc (.cells #[.slice an n.length capn] 22)).alloc (.cells #[.slice none 0 0, .slice none 0 0, .slice none 0 0, .slice none 0 0] 27)).alloc (.cells #[.slice none 0 0, .slice none 0 0, .slice none 0 0, .slice none 0 0] 27)) (w.heap.size + 2) [.slice none 0 0, .slice none 0 0, .slice none 0 0, .slice none 0 0] 27 := Blk.new' (by simp) [_, _, _, _] _
  have hf0 := (((Fr.refl [] w).alloc (.cells #[.slice an n.length capn] 22)).alloc (.cells #[.slice none 0 0, .slice none 0 0, .slice none 0 0, .slice none 0 0] 27)).alloc (.cells #[.slice none 0 0, .slice none 0 0, .slice none 0 0, .slice none 0 0] 27)
  have kR := refs_callsW n.length (.slice a ls.length cap) ls _ (hu.fr0 hf0) ht hn
  refine calls_marks Try.func10 rfl ?_
  simp only [Try.ntmps10, List.size_toArray, List.length_cons, List.length_nil, Nat.reduceAdd, Nat.reduceSub, Array.replicate_succ, Array.replicate_zero, List.push_toArray, List.append_toArray, List.nil_append, List.cons_append]
  go_wp2_with fail
  refine kR.mono ?_
  rintro e w1 ⟨vl, rfl, ho1, hf1⟩
  have hvl1 := (SlF.of_owns (f := intC) (l := rcW n.length ls.flatten) (by rw [rcW_length]; exact ho1) : SlI w1 vl _)
  have hrl := rcW_length n.length ls.flatten
  obtain ⟨al, capl, hvle, _, _, _⟩ := hvl1.open
  rw [hrl] at hvle
  subst hvle
  replace B2 := B2.fr0 hf1
  replace B4 := B4.fr0 hf1
  replace B5 := B5.fr0 hf1
  have hF1 := hf0.trans0 hf1
  have B6 := Blk.new w1 [.slice al n.length capl] 22
  have hfa := (Fr.refl [] w1).alloc (.cells #[.slice al n.length capl] 22)
  replace B2 := B2.fr0 hfa
  replace B4 := B4.fr0 hfa
  replace B5 := B5.fr0 hfa
  have hz1 := hf1.size
  simp only [World.size_alloc] at hz1
  have hF1a := hF1.trans0 hfa
  have kC := counted_calls (.slice an n.length capn) (.slice al n.length capl) n (rcW n.length ls.flatten) _ (SlF.fr0 hv hF1a) (SlF.fr0 hvl1 hfa) hrl.symm hn
  have c2 := B2.cell
  clear kR hf0 hF1
  go_wp2_with fail
  refine kC.mono ?_
  rintro e w2 ⟨v0, v1, rfl, hO, hf2⟩
  have l5 := B5.lt
  replace B2 := B2.fr0 hf2
  replace B4 := B4.fr0 hf2
  replace B5 := B5.fr0 hf2
  replace B6 := B6.fr0 hf2
  have hF2 := hF1a.trans0 hf2
  have hO0 := hO.2.1 0 _ rfl
  have hO1 := hO.2.1 1 _ rfl
  have s0 : SlI w2 v0 (pickTo (moreB n (rcW n.length ls.flatten)) n.length) := SlF.of_owns hO0
  have s1 : SlI w2 v1 (pickTo (lessB n (rcW n.length ls.flatten)) n.length) := SlF.of_owns hO1
  have n0 : ∀ x, v0.ownBlock = some x → w.heap.size + 2 < x ∧ x < w2.heap.size := fun x hx => by have := hO0.lt x hx; simp at this; omega
  have n1 : ∀ x, v1.ownBlock = some x → w.heap.size + 2 < x ∧ x < w2.heap.size := fun x hx => by have := hO1.lt x hx; simp at this; omega
  have sl : SlI w2 (.slice al n.length capl) (rcW n.length ls.flatten) := SlF.fr0 hvl1 (hfa.trans0 hf2)
  have nl : ∀ x, (Value.slice al n.length capl).ownBlock = some x → x ≠ w.heap.size + 2 := fun x hx => by have := own_base ho1 x hx; simp at this; omega
  obtain ⟨a0, cp0, hv0, _⟩ := s0.open
  obtain ⟨a1, cp1, hv1, _⟩ := s1.open
  subst hv0
  subst hv1
  clear hO hO0 hO1 kC hfa hF1a hvl1 ho1
  generalize hM0 : pickTo (moreB n (rcW n.length ls.flatten)) n.length = M0 at *
  generalize hM1 : pickTo (lessB n (rcW n.length ls.flatten)) n.length = M1 at *
  have c5 := B5.cell
  have f5 := B5.frozen
  have z2 := hf2.size
  simp only [World.size_alloc] at z2
  clear hf2
  go_wp2_with fail
  have hs5 : Fr [w.heap.size + 2] w2 ((w2.setCell ⟨w.heap.size + 2, 0, none⟩ (.slice a0 M0.length cp0)).setCell ⟨w.heap.size + 2, 1, none⟩ (.slice a1 M1.length cp1)) := Fr.set2 _ _ _ _
  have B5' := (B5.setCell 0 (.slice a0 M0.length cp0)).setCell 1 (.slice a1 M1.length cp1)
  simp only [List.set_cons_zero, List.set_cons_succ] at B5'
  have hF3 := hF2.setCell (p := ⟨w.heap.size + 2, 0, none⟩) (.inr (by simp)) (.slice a0 M0.length cp0) |>.setCell (p := ⟨w.heap.size + 2, 1, none⟩) (.inr (by simp)) (.slice a1 M1.length cp1)
  generalize hw3 : ((w2.setCell ⟨w.heap.size + 2, 0, none⟩ (.slice a0 M0.length cp0)).setCell ⟨w.heap.size + 2, 1, none⟩ (.slice a1 M1.length cp1)) = w3 at *
  have z3 : w3.heap.size = w2.heap.size := by rw [← hw3]; simp
  clear hw3 c5 f5 l5 B5 c2
  replace B2 := B2.fr hs5 (by simp)
  replace B4 := B4.fr hs5 (by simp)
  replace B6 := B6.fr hs5 (by simp; omega)
  have s0' : SlI w3 (.slice a0 M0.length cp0) M0 := SlF.fr s0 hs5 (fun x hx => by have := n0 x hx; simp; omega)
  have s1' : SlI w3 (.slice a1 M1.length cp1) M1 := SlF.fr s1 hs5 (fun x hx => by have := n1 x hx; simp; omega)
  have sl' : SlI w3 (.slice al n.length capl) (rcW n.length ls.flatten) := SlF.fr sl hs5 (fun x hx => by simpa using nl x hx)
  have B7 := Blk.new w3 [.func (.func 23) #[] #[.pointer (some ⟨w1.heap.size, 0, none⟩)]] 51
  have hfb := (Fr.refl [] w3).alloc (.cells #[.func (.func 23) #[] #[.pointer (some ⟨w1.heap.size, 0, none⟩)]] 51)
  rw [← z3]
  refine (all_calls _ _ ⟨_, _, _, rfl⟩).mono ?_
  rintro e w5 ⟨bt, rfl, hbt, hf5, hb5⟩
  have hf35 := hfb.trans0 hf5
  have l7 := B7.lt
  have l6 := B6.lt
  replace B2 := B2.fr0 hf35
  replace B4 := B4.fr0 hf35
  replace B5' := B5'.fr0 hf35
  replace B6 := B6.fr0 hf35
  replace B7 := B7.fr0 hf5
  replace s0' := SlF.fr0 s0' hf35
  replace s1' := SlF.fr0 s1' hf35
  replace sl' := SlF.fr0 sl' hf35
  have hF5 := hF3.trans0 hf35
  have z5 := hf5.size
  simp only [World.size_alloc] at hb5 z5 l7
  obtain ⟨vs, hR⟩ := hu.rows
  have hvl := hR.1
  have hR5 := hR.fr0 hF5
  have hRt := hR.rowsW ht
  have hcA := hR.cumAll
  have hseq := all_seqW bt a cap vs w5 (by rw [hvl]; exact hbt) (by rw [hvl]; exact hR5.2.1) hRt
  rw [hcA] at hseq
  have heg : ∀ args w, (callFunc 32 args).run Try.prog w = .ok (.enter 32 args) w := enters_of Try.func32 (by kernel_rfl) rfl
  have hab : 0 < vs.length → ∀ p, a = some p → p.block < w.heap.size := fun h0 p hp => by
    obtain ⟨b, off, he, hb, _⟩ := Sl.cellAt hR.2.1 h0
    rw [hp] at he
    cases he
    exact hb
  have hrowne : ∀ i k, i < vs.length → k < rowN (vs.getD i undef) → rowB (vs.getD i undef) < w.heap.size := fun i k hi hk => by
    obtain ⟨hss, hkl, _⟩ := hR.slot hi hk
    exact (hss.rowAt hkl).1
  clear hbt hf5 hfb hcA hs5 hF3 hf35 s0 s1 sl
  generalize hfs : ls.flatten = fs at *
  go_wp2_with fail
  refine wp_rangeFunc_seqL rfl heg hseq (Fr.refl _ _) (fun k f A => ∃ v2 v3, f = (w.heap.size + 2) :: (v2.ownBlock.toList ++ v3.ownBlock.toList) ∧ Blk A (w.heap.size + 2) [.slice a0 M0.length cp0, .slice a1 M1.length cp1, v2, v3] 27 ∧ OwnV A w5.heap.size 3 [v2, v3] [pickTo (badAt n.length fs) k, pickTo (wrongAtW n.length fs (len0 ls)) k] ∧ Fr [w.heap.size + 2] w5 A) (fun _ _ _ => False) [w.heap.size + 2] ?st (fun _ _ _ _ _ h _ _ => h) (by simp) ?fp ⟨.slice none 0 0, .slice none 0 0, rfl, B5', OwnV.nil _ _ _ 2, Fr.refl _ _⟩ ?round ?done (fun _ _ _ _ _ _ h _ => h.elim)
  case fp =>
    intro x hx
    have := List.mem_singleton.1 hx
    subst this
    refine ⟨by omega, fun h => ?_⟩
    rcases h with h | ⟨h0, p, hp, he⟩
    · omega
    · have := hab h0 p hp; omega
  case st =>
    rintro k f A B M' ⟨v2, v3, rfl, h5, ho, hf⟩ hF hM
    have nM : ∀ y ∈ M', w5.heap.size ≤ y ∧ y ∉ (w.heap.size + 2) :: (v2.ownBlock.toList ++ v3.ownBlock.toList) := fun y hy => by rcases hM y hy with h | h; cases h; exact h
    refine ⟨v2, v3, rfl, h5.fr hF (fun h => (nM _ h).2 List.mem_cons_self), ho.frA hF (fun i v x hv hx h => (nM x h).2 ?_), hf.trans hF (fun x hx hl => by have := (nM x hx).1; omega)⟩
    refine List.mem_cons_of_mem _ (List.mem_append.2 ?_)
    match i, hv with
    | 0, hv => simp at hv; subst hv; left; rw [hx]; simp
    | 1, hv => simp at hv; subst hv; right; rw [hx]; simp
    | i + 2, hv => simp at hv
  case round =>
    rintro lp k f A args h1 h2 h3 h4 hkk ⟨v2, v3, hfe, h5, hO, hf⟩ ⟨i, kk, pb, hi2, hk2, hMk, hpb, rfl, hBp⟩ ⟨rr, hrr⟩
    refine ⟨rfl, ?_⟩
    clear hseq heg
    have hne : pb ≠ lp := fun e => by subst e; unfold Blk at hBp; rw [hBp] at hrr; cases hrr
    gi_wp2
    refine ⟨⟨v2, v3, hfe, h5, hO, hf⟩, Fr.refl _ _, ?_⟩
    clear h5 hO hf hfe
    rintro A2 ⟨v2, v3, rfl, h5, hO, hf⟩ hF2 hsz2
    have hBp2 := hBp.fr hF2 (by simpa using hne)
    obtain ⟨hss, hkl, hget⟩ := hR5.slot hi2 hk2
    have hrow := hR5.row0 hi2 hk2
    rw [← hMk] at hget hrow
    rw [hfs] at hget
    obtain ⟨hbb, d0, d1, d2⟩ := hss.rowAt hkl
    rw [← hget] at d0 d1 d2
    have Hbad := hidIt (pickTo_succ (badAt n.length fs) k)
    have Hwr := hidIt (pickTo_succ (wrongAtW n.length fs (len0 ls)) k)
    have Hb : Hid (badAt n.length fs k = badS (fs.getD k zS) n.length) := hidIt rfl
    have Hw : Hid (wrongAtW n.length fs (len0 ls) k = (hasS (fs.getD k zS) (n.length : Int) && wrongS (rcW n.length fs) (decide (k < len0 ls)) (fs.getD k zS))) := hidIt rfl
    have Hrow : Hid (decide (k < len0 ls) = decide (i = 0)) := hidIt (by simp only [hrow])
    have Hhost := fun h => has_host (s := fs.getD k zS) (m := n.length) h
    have Hhb := fun h => has_bad (s := fs.getD k zS) (m := (n.length : Int)) h
    have hrbn : rowB (vs.getD i undef) ≠ w.heap.size + 2 := by have := hrowne i kk hi2 hk2; omega
    clear hget hss hBp hMk hi2 hk2 hkl hrow
    generalize rowB (vs.getD i undef) = rb at *
    generalize rowO (vs.getD i undef) + kk * 3 = ro at *
    generalize fs.getD k zS = s at *
    obtain ⟨p, q, r⟩ := s
    simp only at d0 d1 d2 Hhost
    have hFd : Fr [] A2 A2.drew := (Fr.refl _ _).drew
    have hfd : Fr [w.heap.size + 2] w5 A2.drew := hf.trans0 hFd
    have hpd := hBp2.fr0 hFd
    have hcell : ∀ X, Fr [w.heap.size + 2] w5 X → X.cell? ⟨rb, ro, none⟩ = some (.int .i64 p) ∧ X.cell? ⟨rb, ro + 1, none⟩ = some (.int .i64 q) ∧ X.cell? ⟨rb, ro + 2, none⟩ = some (.bool r) := fun X hX => ⟨(World.cell?_of_block (hX.block rb hbb (by simpa using hrbn))).trans d0, (World.cell?_of_block (hX.block rb hbb (by simpa using hrbn))).trans d1, (World.cell?_of_block (hX.block rb hbb (by simpa using hrbn))).trans d2⟩
    clear d0 d1 d2
    have hst2 : ∀ X, Fr [w.heap.size + 2] w5 X → Blk X w.heap.size [.slice an n.length capn] 22 := fun X hX => B2.fr hX (by simp)
    gi_wp2_with fail
    refine wpIn_region_G (Fr [] A2.drew) [(true, 0), (true, 1), (true, 2), (true, 3), (true, 4), (true, 5), (true, 6), (true, 7), (false, 8), (true, 9)] (by as_aux_lemma => kernel_rfl) (by as_aux_lemma => kernel_rfl) (Fr.refl _ _) ?_
    simp only [inOrder, List.map_cons, List.map_nil, List.getD_cons_zero, List.getD_cons_succ]
    iterate 3
      refine wpG_pure fun K hK => ?_
      go_simp
      refine hK _ ?_
      clear hK K
    refine wpG_val (.pointer (some ⟨rb, ro, none⟩)) (by first | rfl | go_simp) (fun X hX => by have cc := (hpd.fr0 hX).cell; go_simp) ?_
    simp only [Act.put, List.setIfInBounds_toArray, List.set_cons_zero, List.set_cons_succ]
    iterate 1
      refine wpG_pure fun K hK => ?_
      go_simp
      refine hK _ ?_
      clear hK K
    refine wpG_val (.agg #[.int .i64 p, .int .i64 q, .bool r]) (by first | rfl | go_simp) (fun X hX => by obtain ⟨e0, e1, e2⟩ := hcell X (hfd.trans0 hX); go_simp) ?_
    simp only [Act.put, List.setIfInBounds_toArray, List.set_cons_zero, List.set_cons_succ]
    refine wpG_val (.slice an n.length capn) (by first | rfl | go_simp) (fun X hX => by have cc := (hst2 X (hfd.trans0 hX)).cell; go_simp) ?_
    simp only [Act.put, List.setIfInBounds_toArray, List.set_cons_zero, List.set_cons_succ]
    iterate 1
      refine wpG_pure fun K hK => ?_
      go_simp
      refine hK _ ?_
      clear hK K
    refine wpG_one fun K hK => ?_
    go_simp
    refine (beyond_calls p q r (n.length : Int) _).mono ?_
    rintro e w6 ⟨rfl, hf6⟩
    refine hK _ _ (hf6) ?_
    clear hK K
    iterate 1
      refine wpG_pure fun K hK => ?_
      go_simp
      refine hK _ ?_
      clear hK K
    refine wpG_end ?_
    have hf26 := hFd.trans0 hf6
    have hf6w := hfd.trans0 hf6
    have h56 := h5.fr0 hf26
    have hO6 := hO.fr hf26 (by simp)
    have hp6 := hpd.fr0 hf6
    clear hpd h5 hO hBp2 hfd hf6 hFd hf
    have hz6 := hf26.size
    have hz5 := hf6w.size
    have hO2 := hO6.2.1 0 _ rfl
    have hO3 := hO6.2.1 1 _ rfl
    have nb52 := own_ne_blk hO2 h56 (by decide)
    have nb53 := own_ne_blk hO3 h56 (by decide)
    have npb2 := own_ne_blk hO2 hp6 (by decide)
    have npb3 := own_ne_blk hO3 hp6 (by decide)
    cases hbd : badS (p, q, r) (n.length : Int) with
    | true =>
      have hx := hcb k hkk
      rw [Hb.out, hbd] at hx
      cases hx
    | false =>
      rw [hbd] at Hb
      rw [Hb.out, if_neg (by simp), List.append_nil] at Hbad
      clear Hhb Hb
      have hFd : Fr [] w6 w6.drew := (Fr.refl _ _).drew
      have hpd := hp6.fr0 hFd
      have hfd := hf6w.trans0 hFd
      have hB6 : ∀ X, Fr [w.heap.size + 2] w5 X → Blk X w1.heap.size [.slice al n.length capl] 22 := fun X hX => B6.fr hX (by simp; omega)
      have hB7 : ∀ X, Fr [w.heap.size + 2] w5 X → Blk X w3.heap.size [.func (.func 23) #[] #[.pointer (some ⟨w1.heap.size, 0, none⟩)]] 51 := fun X hX => B7.fr hX (by simp; omega)
      gi_wp2_with fail
      refine wpIn_region_G (Fr [] w6.drew) [(true, 0), (true, 1), (true, 2), (true, 3), (true, 4), (true, 5), (true, 6), (true, 7), (false, 8), (true, 9), (true, 10), (true, 11), (true, 12), (true, 13), (true, 14), (true, 15), (true, 16), (true, 17), (false, 18), (true, 19), (true, 20)] (by as_aux_lemma => kernel_rfl) (by as_aux_lemma => kernel_rfl) (Fr.refl _ _) ?_
      simp only [inOrder, List.map_cons, List.map_nil, List.getD_cons_zero, List.getD_cons_succ]
      iterate 3
        refine wpG_pure fun K hK => ?_
        go_simp
        refine hK _ ?_
        clear hK K
      refine wpG_val (.pointer (some ⟨rb, ro, none⟩)) (by first | rfl | go_simp) (fun X hX => by have cc := (hpd.fr0 hX).cell; go_simp) ?_
      simp only [Act.put, List.setIfInBounds_toArray, List.set_cons_zero, List.set_cons_succ]
      iterate 1
        refine wpG_pure fun K hK => ?_
        go_simp
        refine hK _ ?_
        clear hK K
      refine wpG_val (.agg #[.int .i64 p, .int .i64 q, .bool r]) (by first | rfl | go_simp) (fun X hX => by obtain ⟨e0, e1, e2⟩ := hcell X (hfd.trans0 hX); go_simp) ?_
      simp only [Act.put, List.setIfInBounds_toArray, List.set_cons_zero, List.set_cons_succ]
      refine wpG_val (.slice an n.length capn) (by first | rfl | go_simp) (fun X hX => by have cc := (hst2 X (hfd.trans0 hX)).cell; go_simp) ?_
      simp only [Act.put, List.setIfInBounds_toArray, List.set_cons_zero, List.set_cons_succ]
      iterate 1
        refine wpG_pure fun K hK => ?_
        go_simp
        refine hK _ ?_
        clear hK K
      refine wpG_one fun K hK => ?_
      go_simp
      refine (has_calls p q r (n.length : Int) _).mono ?_
      rintro e w8 ⟨rfl, hf8⟩
      refine hK _ _ (hf8) ?_
      clear hK K
      cases hh : hasS (p, q, r) (n.length : Int) with
      | false =>
        rw [hh, Bool.false_and] at Hw
        rw [Hw.out, if_neg (by simp), List.append_nil] at Hwr
        iterate 9
          refine wpG_pure fun K hK => ?_
          go_simp
          refine hK _ ?_
          clear hK K
        iterate 1
          refine wpG_one fun K hK => ?_
          go_simp
          clear hK K
        iterate 2
          refine wpG_pure fun K hK => ?_
          go_simp
          refine hK _ ?_
          clear hK K
        refine wpG_end ?_
        have hf28 := (hf26.trans0 hFd).trans0 hf8
        have hf8w := hfd.trans0 hf8
        have h58 := (h56.fr0 hFd).fr0 hf8
        have hO8 := (hO6.fr hFd (by simp)).fr hf8 (by simp)
        gi_wp2
        exact ⟨_, ⟨v2, v3, rfl, h58, by rw [Hbad.out, Hwr.out]; exact hO8, hf8w⟩, hf28.weak, fun x hx => by
          have hz := hf28.size
          have hO80 := (hO8.2.1 0 _ rfl).lt
          have hO81 := (hO8.2.1 1 _ rfl).lt
          have l58 := h58.lt
          refine ⟨?_, .inl hx⟩
          rcases List.mem_cons.1 hx with rfl | hx
          · exact l58
          · rcases List.mem_append.1 hx with h | h
            · exact (hO80 x (by simpa using h)).2
            · exact (hO81 x (by simpa using h)).2⟩
      | true =>
        rw [hh, Bool.true_and, Hrow.out] at Hw
        obtain ⟨H, hqH, hHm⟩ := Hhost hh
        subst hqH
        clear Hhost Hrow
        obtain ⟨g, off, hal, hgl, hgc⟩ := SlI.at sl' (i := H) (by rw [rcW_length]; exact hHm)
        have hgn : g ≠ w.heap.size + 2 := nl g (by rw [hal]; rfl)
        have hgX : ∀ X, Fr [w.heap.size + 2] w5 X → X.cell? ⟨g, off + H, none⟩ = some (.int .i64 ((rcW n.length fs).getD H 0)) := fun X hX => (World.cell?_of_block (hX.block g hgl (by simpa using hgn))).trans hgc
        have kW := fun X (hX : Fr [w.heap.size + 2] w5 X) => wrong_calls w1.heap.size g off capl i H n.length (rcW n.length fs) p r X (by have := hB6 X hX; rw [hal] at this; exact this) (hgX X hX) hHm hn
        iterate 1
          refine wpG_pure fun K hK => ?_
          go_simp
          refine hK _ ?_
          clear hK K
        refine wpG_val (.func (.func 23) #[] #[.pointer (some ⟨w1.heap.size, 0, none⟩)]) (by first | rfl | go_simp) (fun X hX => by have cc := (hB7 X (hfd.trans0 hX)).cell; rw [z3] at cc; go_simp) ?_
        simp only [Act.put, List.setIfInBounds_toArray, List.set_cons_zero, List.set_cons_succ]
        iterate 4
          refine wpG_pure fun K hK => ?_
          go_simp
          refine hK _ ?_
          clear hK K
        refine wpG_val (.pointer (some ⟨rb, ro, none⟩)) (by first | rfl | go_simp) (fun X hX => by have cc := (hpd.fr0 hX).cell; go_simp) ?_
        simp only [Act.put, List.setIfInBounds_toArray, List.set_cons_zero, List.set_cons_succ]
        iterate 1
          refine wpG_pure fun K hK => ?_
          go_simp
          refine hK _ ?_
          clear hK K
        refine wpG_val (.agg #[.int .i64 p, .int .i64 H, .bool r]) (by first | rfl | go_simp) (fun X hX => by obtain ⟨e0, e1, e2⟩ := hcell X (hfd.trans0 hX); go_simp) ?_
        simp only [Act.put, List.setIfInBounds_toArray, List.set_cons_zero, List.set_cons_succ]
        have hf8w := hfd.trans0 hf8
        refine wpG_one fun K hK => ?_
        go_simp
        refine (kW _ hf8w).mono ?_
        rintro e w9 ⟨rfl, hf9⟩
        refine hK _ _ (hf8.trans0 hf9) ?_
        clear hK K
        iterate 2
          refine wpG_pure fun K hK => ?_
          go_simp
          refine hK _ ?_
          clear hK K
        refine wpG_end ?_
        replace hf8 := hf8.trans0 hf9
        replace hf8w := hf8w.trans0 hf9
        have hf28 := (hf26.trans0 hFd).trans0 hf8
        have h58 := (h56.fr0 hFd).fr0 hf8
        have hO8 := (hO6.fr hFd (by simp)).fr hf8 (by simp)
        have hp8 := (hpd.fr0 hf8)
        clear h56 hO6 hp6 hpd hfd hFd hf9 kW hgX hgc
        generalize w9 = w8 at *
        cases hwr : wrongS (rcW n.length fs) (decide (i = 0)) (p, (H : Int), r) with
        | false =>
          rw [hwr] at Hw
          rw [Hw.out, if_neg (by simp), List.append_nil] at Hwr
          gi_wp2
          exact ⟨_, ⟨v2, v3, rfl, h58, by rw [Hbad.out, Hwr.out]; exact hO8, hf8w⟩, hf28.weak, fun x hx => by
            have hz := hf28.size
            have hO80 := (hO8.2.1 0 _ rfl).lt
            have hO81 := (hO8.2.1 1 _ rfl).lt
            have l58 := h58.lt
            refine ⟨?_, .inl hx⟩
            rcases List.mem_cons.1 hx with rfl | hx
            · exact l58
            · rcases List.mem_append.1 hx with h | h
              · exact (hO80 x (by simpa using h)).2
              · exact (hO81 x (by simpa using h)).2⟩
        | true =>
          have hx := hcw k hkk
          rw [Hw.out, hwr] at hx
          cases hx
  case done =>
    rintro D f W h1 h2 ⟨v2, v3, rfl, h5, hO, hf⟩ hK
    clear hseq heg
    have hO2 := hO.2.1 0 _ rfl
    have hO3 := hO.2.1 1 _ rfl
    have o2 := hO2.lt
    have o3 := hO3.lt
    have s2 : SlI W v2 (pickTo (badAt n.length fs) fs.length) := SlF.of_owns hO2
    have s3 : SlI W v3 (pickTo (wrongAtW n.length fs (len0 ls)) fs.length) := SlF.of_owns hO3
    obtain ⟨a2, p2, rfl, _⟩ := s2.open
    obtain ⟨a3, p3, rfl, _⟩ := s3.open
    have n2 : ∀ x, (Value.slice a2 (pickTo (badAt n.length fs) fs.length).length p2).ownBlock = some x → w5.heap.size ≤ x ∧ x ≠ D := fun x hx => ⟨(o2 x hx).1, fun e => h2 (by subst e; exact List.mem_cons_of_mem _ (List.mem_append.2 (.inl (by rw [hx]; simp))))⟩
    have n3 : ∀ x, (Value.slice a3 (pickTo (wrongAtW n.length fs (len0 ls)) fs.length).length p3).ownBlock = some x → w5.heap.size ≤ x ∧ x ≠ D := fun x hx => ⟨(o3 x hx).1, fun e => h2 (by subst e; exact List.mem_cons_of_mem _ (List.mem_append.2 (.inr (by rw [hx]; simp))))⟩
    have s0 : SlI W _ M0 := SlF.fr s0' hf (fun x hx => by have := n0 x hx; simp; omega)
    have s1 : SlI W _ M1 := SlF.fr s1' hf (fun x hx => by have := n1 x hx; simp; omega)
    generalize hM2 : pickTo (badAt n.length fs) fs.length = M2 at *
    generalize hM3 : pickTo (wrongAtW n.length fs (len0 ls)) fs.length = M3 at *
    have h4 := B4.fr hf (by simp)
    have hfw := hF5.trans hf (fun x hx hl => by have := List.mem_singleton.1 hx; omega)
    clear hO hO2 hO3 hf
    have c5 := h5.cell
    have c4 := h4.cell
    have f4 := h4.frozen
    have l4 := h4.lt
    go_wp2
    have hs4 : Fr [w.heap.size + 1] W ((((W.setCell ⟨w.heap.size + 1, 0, none⟩ (.slice a0 M0.length cp0)).setCell ⟨w.heap.size + 1, 1, none⟩ (.slice a1 M1.length cp1)).setCell ⟨w.heap.size + 1, 2, none⟩ (.slice a2 M2.length p2)).setCell ⟨w.heap.size + 1, 3, none⟩ (.slice a3 M3.length p3)) := ((((Fr.refl _ W).setCell (.inl (by simp)) _).setCell (.inl (by simp)) _).setCell (.inl (by simp)) _).setCell (.inl (by simp)) _
    have h4' := (((h4.setCell 0 (.slice a0 M0.length cp0)).setCell 1 (.slice a1 M1.length cp1)).setCell 2 (.slice a2 M2.length p2)).setCell 3 (.slice a3 M3.length p3)
    simp only [List.set_cons_zero, List.set_cons_succ] at h4'
    have hfw4 := hfw.trans hs4 (fun x hx hl => by have := List.mem_singleton.1 hx; omega)
    generalize ((((W.setCell ⟨w.heap.size + 1, 0, none⟩ (.slice a0 M0.length cp0)).setCell ⟨w.heap.size + 1, 1, none⟩ (.slice a1 M1.length cp1)).setCell ⟨w.heap.size + 1, 2, none⟩ (.slice a2 M2.length p2)).setCell ⟨w.heap.size + 1, 3, none⟩ (.slice a3 M3.length p3)) = W4 at *
    have hK4 : W4.heap[D]? = some (.deferred (some [])) := (hs4.block D (Array.getElem?_eq_some_iff.1 hK).1 (by simp; omega)).trans hK
    have key : ∀ (v : Value) (l : List Int) W', SlI W v l → (∀ x, v.ownBlock = some x → w.heap.size + 1 < x ∧ x ≠ D) → Fr [D] W4 W' → SlI W' v l := fun v l W' hv hx hF => SlF.fr (SlF.fr hv hs4 (fun x hxx h => by have := (hx x hxx).1; simp at h; omega)) hF (fun x hxx h => by have := (hx x hxx).2; simp at h; omega)
    refine leave_mark (v := .agg #[.slice a0 M0.length cp0, .slice a1 M1.length cp1, .slice a2 M2.length p2, .slice a3 M3.length p3]) rfl hK4 (fun W' hF => ?_) fun W' hF => ⟨_, _, _, _, rfl, (by rw [hfs, hM0]; exact key _ _ W' s0 (fun x hx => by have := n0 x hx; exact ⟨by omega, by omega⟩) hF), (by rw [hfs, hM1]; exact key _ _ W' s1 (fun x hx => by have := n1 x hx; exact ⟨by omega, by omega⟩) hF), (by rw [hfs, hM2]; exact key _ _ W' s2 (fun x hx => by have := n2 x hx; exact ⟨by omega, this.2⟩) hF), (by rw [hfs, hM3]; exact key _ _ W' s3 (fun x hx => by have := n3 x hx; exact ⟨by omega, this.2⟩) hF), hfw4.trans1 hF (by omega), fun b hb => by
      rcases hb with h | h | h | h
      · have := n0 b h; omega
      · have := n1 b h; omega
      · have := n2 b h; omega
      · have := n3 b h; omega⟩
    have c4' := (h4'.fr hF (by simp; omega)).cell
    simp [results, Try.results10, go_sem, c4']
end Go.Proofs.Ytmbbmombhkaeoaa
