/-
  slices.Clone of extents, span.bounds.
-/
import Derived.Test.YtkammkbjkojfmaaSortC
import Derived.Test.YtkammkbjkojfmaaSpE3
import Derived.Lib.SliceRun
namespace Go.Proofs.Ytkammkbjkojfmaa
open Go.RowKit Go.Maps

set_option maxRecDepth 100000 in
set_option maxHeartbeats 1600000 in
theorem CloneE_calls (v : Value) (l : List Op3) (w : World) (hv : SlP w v l) (hok : okV v) (hl : l.length ≤ 1000000) : Calls Try.prog 41 #[v] w fun e w' => ∃ v', e = .returned v' ∧ w'.ownsRow w.heap.size 38 3 v' l.length (l.flatMap op3C) ∧ Fr [] w w' := by
  have hv2 := hv
  obtain ⟨a, cap, rfl, hlc, hcm, hc⟩ := hv
  have hq : ∀ (w : World), (binOp .eql 22 (.slice a l.length cap) (.slice none 0 0)).run Try.prog w = .ok (.bool a.isNone) w := fun w => Lib.run_eql_slice_nil w _ 38 a l.length cap 0 0 Try.underlying22
  cases a with
  | none =>
    have hl0 : l = [] := by
      rcases hc with h | ⟨b, off, h, _⟩
      · cases l with
        | nil => rfl
        | cons x l => simp at h
      · cases h
    subst hl0
    clear hv2 hc
    replace hq : ∀ (w : World), (binOp .eql 22 (.slice none 0 cap) (.slice none 0 0)).run Try.prog w = .ok (.bool true) w := hq
    simp only [List.length_nil] at *
    go_enter Try.func41, Try.ntmps41
    go_wp2
    go_ret
    exact ⟨_, rfl, World.ownsRow_nil _ _ _ _, Fr.refl _ _⟩
  | some ad =>
    go_enter Try.func41, Try.ntmps41
    go_wp2_with (at_builtin; refine Hid.out ?_)
    refine hidIt ?_
    refine wpList_append_sl 22 38 (.agg #[.int .i64 0, .int .i64 0, .int .i64 0]) 3 24 Try.underlying22 infoExt rfl (by decide) (by decide) rfl _ _ rfl w.heap.size _ 0 _ rfl (World.ownsRow_made w _ 0 (Nat.le_refl _) (by decide) rfl) _ l.length (l.flatMap op3C) (Sl.fr0 hv2 ((Fr.refl _ _).alloc _)) hok (flatE_length l) (flat_one (fun _ => ext_one) l) rfl (by omega) (by omega) (by simp) ?_
    intro v' w2 hown2 hgrow
    obtain ⟨a2, c2, rfl, _, _, _⟩ := Sl.of_owns hown2
    go_wp2
    go_ret
    exact ⟨_, rfl, by simpa using hown2, ((Fr.refl [] w).alloc _).grown hgrow (fun x hx => (.inr (by cases hx; exact Nat.le_refl _)))⟩
/-- where extents end -/
def endsE (M : List Op3) : List Int := M.map fun x => x.1 + x.2.1
theorem endsE_succ {M : List Op3} {k : Nat} (h : k < M.length) : endsE (M.take (k + 1)) = endsE (M.take k) ++ [(M.getD k z3).1 + (M.getD k z3).2.1] := by
  unfold endsE
  rw [take_snoc z3 M h, List.map_append]
  rfl
set_option maxRecDepth 100000 in
set_option maxHeartbeats 3200000 in
theorem bounds_calls (v u : Value) (l m : List Op3) (w : World) (hv : SlP w v l) (hu : SlP w u m) (hok : okV v) (hok2 : okV u) (hsl : smallE l) (hsm : smallE m) (hl : l.length ≤ 65536) (hm : m.length ≤ 65536) :
    Calls Try.prog 38 #[v, u] w fun e w' => ∃ bx ve, e = .returned (.func (.func 43) #[] #[.pointer (some ⟨bx, 0, none⟩)]) ∧ Blk w' bx [ve] 27 ∧
      w'.ownsRow w.heap.size 3 1 ve (sortI (endsE (l ++ m))).length ((sortI (endsE (l ++ m))).flatMap intC) ∧ Fr [] w w' ∧ w.heap.size ≤ bx ∧ ∀ x, ve.ownBlock = some x → x ≠ bx := by
  have hsM : ∀ k, k < (l ++ m).length → (0 ≤ ((l ++ m).getD k z3).1 ∧ ((l ++ m).getD k z3).1 ≤ 1000000) ∧ (0 ≤ ((l ++ m).getD k z3).2.1 ∧ ((l ++ m).getD k z3).2.1 ≤ 1000000) := fun k hk => by
    have hx := List.mem_of_getElem? (getD_some z3 hk)
    rcases List.mem_append.1 hx with h | h
    · exact hsl _ h
    · exact hsm _ h
  have hML : (l ++ m).length ≤ 200000 := by simp; omega
  have Hst : ∀ k, k < (l ++ m).length → Hid (endsE ((l ++ m).take (k + 1)) = endsE ((l ++ m).take k) ++ [((l ++ m).getD k z3).1 + ((l ++ m).getD k z3).2.1]) := fun k hk => hidIt (endsE_succ hk)
  have H0 : endsE ((l ++ m).take 0) = [] := by simp [endsE]
  have Hd : Hid (endsE ((l ++ m).take (l ++ m).length) = endsE (l ++ m)) := hidIt (by rw [List.take_length])
  have Hlen : ∀ k, k ≤ (l ++ m).length → (endsE ((l ++ m).take k)).length = k := fun k hk => by unfold endsE; rw [List.length_map, List.length_take]; omega
  have hlm : (l ++ m).length = l.length + m.length := List.length_append
  have hfm : (l ++ m).flatMap op3C = l.flatMap op3C ++ m.flatMap op3C := List.flatMap_append
  generalize l ++ m = M at *
  generalize endsE M = Z at *
  obtain ⟨a, cap, rfl, _, _, _⟩ := hv.open
  obtain ⟨a', cap', rfl, _, _, _⟩ := hu.open
  go_enter Try.func38, Try.ntmps38
  go_wp2_with fail
  have B5 := Blk.new w [.slice none 0 0] 27
  have hFa := (Fr.refl [] w).alloc (.cells #[.slice none 0 0] 27)
  refine (CloneE_calls _ l _ (SlF.fr0 hv hFa) hok (by omega)).mono ?_
  rintro e w1 ⟨v1, rfl, hown1, hf1⟩
  replace B5 := B5.fr0 hf1
  have hF1 := hFa.trans0 hf1
  have hz1 := hF1.size
  simp only [World.size_alloc] at hown1
  have hob1 := own_base hown1
  obtain ⟨a1, c1, rfl, _, _, _⟩ := Sl.of_owns hown1
  have l5 := B5.lt
  clear hf1 hFa
  go_wp2_with (at_builtin; refine Hid.out ?_)
  refine hidIt ?_
  refine wpList_append_sl 22 38 (.agg #[.int .i64 0, .int .i64 0, .int .i64 0]) 3 24 Try.underlying22 infoExt rfl (by decide) (by decide) rfl _ _ rfl (w.heap.size + 1) _ l.length _ rfl hown1 _ m.length (m.flatMap op3C) (SlF.fr0 hu hF1) hok2 (flatE_length m) (flat_one (fun _ => ext_one) m) rfl (by omega) (by omega) (by omega) ?_
  intro v2 w2 hown2 hgrow2
  rw [← hfm, ← hlm] at hown2
  have hF2 : Fr [] w w2 := hF1.grown hgrow2 (fun x hx => .inr (by have := hob1 x hx; omega))
  have hob2 := own_base hown2
  have hlt2 := hown2.lt
  have B5b : Blk w2 w.heap.size [.slice none 0 0] 27 := B5.fr (Fr.of_grown hgrow2) (fun hx => by have := hob1 _ (Option.mem_toList.1 hx); omega)
  have hsM2 : SlP w2 v2 M := SlF.of_owns hown2
  obtain ⟨a2, c2, rfl, _, hcm2, _⟩ := Sl.of_owns hown2
  unfold maxLen at hcm2
  have hz2 := hF2.size
  have l5b := B5b.lt
  clear hown1 hgrow2 B5 hob1 hF1
  go_wp2_with fail
  go_loopw [7, 13] (fun _ i wr => ∃ (k : Nat) (ve : Value), k ≤ M.length ∧ i = .int .i64 k ∧ Blk wr w.heap.size [ve] 27 ∧ wr.ownsRow w2.heap.size 3 1 ve k ((endsE (M.take k)).flatMap intC) ∧ Fr [w.heap.size] w2 wr) (fun _ i _ => M.length - (intOf i).toNat)
  case atStart => exact ⟨0, _, Nat.zero_le _, rfl, B5b, by rw [H0]; exact World.ownsRow_nil _ _ _ _, Fr.refl _ _⟩
  case round =>
    clear B5b
    obtain ⟨k, ve, hk, rfl, B5, hown, hF⟩ := hrel
    have hob := own_base hown
    have hsz := hF.size
    obtain ⟨ae, ce, rfl, _, _, _⟩ := Sl.of_owns hown
    have b5 := B5.cell
    have f5 := B5.frozen
    have l5 := B5.lt
    by_cases hlt : k < M.length
    · have hsl := SlF.fr hsM2 hF (fun x hx hm => by have := hob2 x hx; have := List.mem_singleton.1 hm; omega)
      obtain ⟨b, off, rfl, hb, d0, d1, d2⟩ := SlP.at hsl hlt
      have hs := Hst k hlt
      have hsm := hsM k hlt
      generalize M.getD k z3 = x at *
      obtain ⟨p, q, r⟩ := x
      simp only at d0 d1 d2 hs hsm
      have hwr : IntKind.i64.wrap (p + q) = p + q := IntWalk.i64_in _ (by omega)
      clear Hst Hd H0 Hlen hsM
      go_wp2_with (at_builtin; refine Hid.out ?_)
      refine hidIt ?_
      refine wpList_append1 27 3 (.int .i64 0) 1 8 Try.underlying27 infoInt rfl (by decide) (by decide) rfl _ _ rfl w2.heap.size _ k _ rfl ((hown.alloc _).alloc _) (intC (p + q)) rfl int_one _ rfl (Blk.new' (by simp) _ 3) (by omega) (by simp; omega) ?_
      intro v3 w3 hown3 hgrow3 hloc3
      have hFg : Fr (Value.slice ae k ce).ownBlock.toList wr w3 := (((Fr.refl [] wr).alloc (.cells #[.int .i64 p, .int .i64 q, .int .i64 r] 38)).alloc (.cells #[.int .i64 (p + q)] 3)).weak.grown hgrow3 (fun x hx => .inl (Option.mem_toList.2 hx))
      have B5c := B5.fr hFg (fun hm => by have := hob _ (Option.mem_toList.1 hm); omega)
      have hF3 : Fr [w.heap.size] w2 w3 := hF.trans hFg (fun x hx hl => by have := hob _ (Option.mem_toList.1 hx); omega)
      have b5c := B5c.cell
      have f5c := B5c.frozen
      have l5c := B5c.lt
      obtain ⟨a3, c3, rfl, _, _, _⟩ := Sl.of_owns hown3
      clear hown B5 b5 f5
      go_wp2
      go_roundw
      case rel => exact ⟨k + 1, .slice a3 (k + 1) c3, by omega, by go_num, B5c.setCell 0 _, owns_setCell (by rw [hs.out, List.flatMap_append]; simpa using hown3) (by show w.heap.size < w2.heap.size; omega) _, hF3.setCell (.inl (by simp)) _⟩
      case measure => simp [intOf]; omega
    · have hke : k = M.length := by omega
      have hown' : wr.ownsRow w2.heap.size 3 1 (.slice ae k ce) Z.length (Z.flatMap intC) := by
        have h1 := Hlen M.length (Nat.le_refl _)
        have h2 := Hd.out
        rw [h2] at h1
        rw [h1, ← h2, ← hke]
        exact hown
      have hZ : Z.length ≤ 1000000 := by
        have h1 := Hlen M.length (Nat.le_refl _)
        rw [Hd.out] at h1
        omega
      have key := sSort_calls w2.heap.size _ Z wr hown' hZ
      have hFw : Fr [] w wr := hF2.trans hF (fun x hx hl => by have := List.mem_singleton.1 hx; omega)
      clear hown hown' Hst Hd H0 Hlen hsM hke
      go_wp2_with fail
      refine key.mono ?_
      rintro e w4 ⟨rfl, hown4, hf4⟩
      have B5d := B5.fr hf4 (fun hm => by have := hob _ (Option.mem_toList.1 hm); omega)
      go_wp2
      go_ret
      exact ⟨_, _, rfl, B5d, owns_base hown4 hz2, hFw.trans hf4 (fun x hx hl => by have := hob _ (Option.mem_toList.1 hx); omega), Nat.le_refl _, fun x hx => by have := hob x hx; omega⟩
end Go.Proofs.Ytkammkbjkojfmaa
